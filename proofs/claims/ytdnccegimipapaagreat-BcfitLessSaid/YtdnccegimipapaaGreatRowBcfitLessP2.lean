/- A part of the proof, put together of my texts: Fw13, Fw13b, Fw13c, Fw14, Fw15. -/
import Derived.OrdersHeld
import Derived.StillTail
import Derived.Scope
import Derived.Test.YtdnccegimipapaaGreatRowBcfitLessP1
set_option linter.unusedVariables false
set_option linter.unusedSimpArgs false
open Option renaming map_eq_some_iff → yi, bind_some → y5
open Prod.mk renaming injEq → ym
open List renaming getElem?_eq_none → w9, getElem?_append_left → yg, mem_cons → yr, range → yy, getD_eq_getElem?_getD → ye, mem_append → yk, length → ya, getElem?_eq_getElem → yj
open Option.some renaming injEq → yf
open Bool renaming and_eq_true → yl, false_eq_true → yn
open Nat renaming le_refl → wa, add_assoc → we
namespace Go.AE
open Go Go.RowKit
variable {ρ:Type}
abbrev Cal(ρ:Type):=FuncId→List AV→Heap→(AV→Heap→Option ρ)→Option ρ
abbrev QCal(ρ:Type):=FuncId→List AV→Heap→(AV→Option ρ)→Option ρ
def qex(P:Program)(f:FuncId)(cal:List AV→Heap→(AV→Heap→Option ρ)→Option ρ):Prop:=
 ∀(args:List AV) (H:Heap) (K:AV→Heap→Option ρ) (r:ρ),cal args H K=some r→∀(M:List Place) (B:Base) (w:World) (vs:Array Value),RelL M args vs.toList→RelH M H B w→
  Calls P f vs w fun e w' =>∃v av H' M',e= .returned v∧K av H' =some r∧Ext M M' ∧RelH M' H' B w' ∧Beneath B w w' ∧RelV M' av v
def qb3(P:Program)(f:FuncId)(cal:List AV→Heap→(AV→Option ρ)→Option ρ):Prop:=
 ∀(args:List AV) (H:Heap) (K:AV→Option ρ) (r:ρ),cal args H K=some r→∀(M:List Place) (B:Base) (w:World) (vs:Array Value),RelL M args vs.toList→RelH M H B w→
  ∃v av,K av=some r∧RelV M av v∧∀w',Below w.heap.size w w' →Calls P f vs w' fun e w'' =>e= .returned v∧Below w'.heap.size w' w''
def q0u (P : Program) : Prop := ∀ (g : FuncId) (fn : Func), P.funcs[g]? = some fn → fn.body.isSome = true → fn.name ≠ "runtime.NumGoroutine"
def an(P:Program)(H:Heap)(g:Operand→AV):Op→Option (Bool×AV×Heap)
 | .alloc t=>(jaq P H t).map fun x=>(true,x.1,x.2)
 | .box _ y=>(abox H (g y)).map fun x=>(true,x.1,x.2)
 | .buildSlice t n parts=>(qki P H t n (parts.toList.map fun z=>(z.1,g z.2))).map fun x=>(true,x.1,x.2)
 | .makeSlice t a b=>amake P H t (g a) (g b)
 | .store t a x=>(jas P H t (g a) (g x)).map fun h=>(true,.undef,h)
 | .call c=>match c.callee,c.args.toList with
  | .builtin .append,[y,z]=>j4j P H c.argTypes (g y) (g z)
  | .builtin .copy,[y,z]=>(acopy P H c.argTypes (g y) (g z)).map fun x=>(true,x.1,x.2)
  |_,_=>none
 |_=>none
theorem an_sound{P:Program}{M:List Place}{H:Heap}{B:Base}{w:World}(r:RelH M H B w){e:Operand→Value}{g:Operand→AV}(hg:∀x,RelV M (g x) (e x)){o:Oper}{req:Bool}{x:AV}{H' :Heap}
  (h:an P H g o.op=some (req,x,H')) (hreq:req=true):
  ∃v w' M',((execOp e o).run P w= .ok (.value v) w' ∨((execOp e o).run P w= .ok .skip w' ∧v=undef))∧Ext M M' ∧RelH M' H' B w' ∧Beneath B w w' ∧RelV M' x v:=by
 have l:(∃v w' M',(execOp e o).run P w= .ok (.value v) w' ∧Ext M M' ∧RelH M' H' B w' ∧Beneath B w w' ∧RelV M' x v)→
   ∃v w' M',((execOp e o).run P w= .ok (.value v) w' ∨((execOp e o).run P w= .ok .skip w' ∧v=undef))∧Ext M M' ∧RelH M' H' B w' ∧Beneath B w w' ∧RelV M' x v:=
  fun⟨v,w',M',h1,h2⟩=>⟨v,w',M',.inl h1,h2⟩
 have un:∀{a:Option (AV×Heap)},a.map (fun x=>(true,x.1,x.2))=some (req,x,H')→a=some (x,H'):=by
  intro a ha
  simp only[yi,ym]at ha
  obtain⟨⟨x1,x2⟩,h1,_,h2,h3⟩:=ha
  rw[h1,←h2,←h3]
 cases hop:o.op<;>rw[hop]at h<;>try (cases h;done)
 case alloc t=>exact l (j04 r hop (un h))
 case box t y=>exact l (j8w r hop (hg y) (un h))
 case buildSlice t n parts=>exact l (z7z r hg hop (un h))
 case makeSlice t a b=>exact l (j4i r hop (hg a) (hg b) h hreq)
 case store t a y=>
  simp only[an,yi,ym]at h
  obtain⟨H1,h1,_,h2,rfl⟩:=h
  obtain⟨w',hrun,hh,hb⟩:=j05 r hop (hg a) (hg y) h1
  exact⟨undef,w',M,.inr ⟨hrun,rfl⟩,Ext.refl M,hh,hb,by rw[←h2];exact q43 _ _⟩
 case call c=>
  simp only[an]at h
  split at h
  ·rename_i y z hc ha
   have ha' :c.args= #[y,z]:=by
    apply Array.toList_inj.1
    simpa using ha
   exact l (zu4 r hop hc ha' (hg y) (hg z) h hreq)
  ·rename_i y z hc ha
   have ha' :c.args= #[y,z]:=by
    apply Array.toList_inj.1
    simpa using ha
   exact l (j4l r hop hc ha' (hg y) (hg z) (un h))
  ·cases h
def j74(g:Operand→AV):Op→Option (FuncId×List AV)
 | .call c=>match c.callee with
  | .value f=>match g f with
   | .fn i first cap=>some (i,first++c.args.toList.map g++cap)
   |_=>none
  |_=>none
 |_=>none
theorem z3i{M:List Place}:∀{xs ys:List AV} {a b:List Value},RelL M xs a→RelL M ys b→RelL M (xs++ys) (a++b)
 |[],ys,a,b,h1,h2=>by rw[RelL_nil]at h1;subst h1;simpa using h2
 |x::xs,ys,a,b,h1,h2=>by
  obtain⟨v,t,rfl,hx,hr⟩:=RelL_cons.1 h1
  exact RelL_cons.2 ⟨v,t++b,rfl,hx,z3i hr h2⟩
theorem zsy{P:Program}(hP:q0u P){M:List Place}{e:Operand→Value}{g:Operand→AV}(hg:∀x,RelV M (g x) (e x)){o:Oper}{i:FuncId}{args:List AV}(h:j74 g o.op=some (i,args)){fn:Func}(hf:P.funcs[i]? =some fn)(hb:fn.body.isSome=true):
  ∃vs:Array Value,RelL M args vs.toList∧∀w,(execOp e o).run P w= .ok (.enter i vs) w:=by
 unfold j74 at h
 split at h
 ·rename_i c hop
  split at h
  ·rename_i f hc
   split at h
   ·rename_i i' first cap hgf
    cases h
    have hf' :=hg f
    rw[hgf]at hf'
    simp only[RelV,RelX]at hf'
    obtain⟨x,y,hv,h1,h2⟩:=hf'
    have hv:e f= .func (.func i) x y:=by simpa using hv
    refine⟨x++c.args.map e++y,?_,fun w=> ?_⟩
    ·simp only[Array.toList_append,Array.toList_map]
     exact z3i (z3i h1 (qzu hg _)) h2
    ·have hn:=hP i fn hf hb
     cases hq:fn.body with
     |none=>simp[hq]at hb
     |some cd=>simp[execOp,hop,resolve,hc,hv,Deferred.ofValue,invoke,callFunc,hf,hn,hq]
   ·cases h
  ·cases h
 ·cases h
def zbi(P:Program)(cal:Cal ρ)(o:Oper)(st:St)(K:St→Option ρ):Option ρ:=
 match aq P st.heap st.get o.op with
 |some (req,x)=>cond req (K (st.put o.dst x)) none
 |none=>match an P st.heap st.get o.op with
  |some (req,x,H')=>cond req (K ⟨(st.put o.dst x).tmps,H'⟩) none
  |none=>match j74 st.get o.op with
   |some (f,args)=>match P.funcs[f]? with
    |some fn=>match fn.body with
     |some _=>cal f args st.heap fun x H' =>K ⟨(st.put o.dst x).tmps,H'⟩
     |none=>none
    |none=>none
   |none=>none
theorem z80{P:Program}(hP:q0u P){cal:Cal ρ}(hcal:∀f,qex P f (cal f)){o:Oper}{st:St}{K:St→Option ρ}{r:ρ}(h:zbi P cal o st K=some r){M:List Place}{B:Base}{w0:World}{a:Act}{w:World}(hr:Rel M st B w0 a w)
  {next:Act→World→Prop} {Q:Exit→Act→World→Prop} (hn:∀M' st' a' w',Ext M M' →K st' =some r→Rel M' st' B w0 a' w' →(∃v,a' =a.put o.dst v)→next a' w'):o.wp P a w next Q:=by
 have hg:∀x,RelV M (st.get x) (a.eval x):=fun x=>qwc hr.tmps x
 unfold zbi at h
 unfold Oper.wp
 split at h
 ·rename_i req x hq
  cases req with
  |false=>cases h
  |true=>
   obtain⟨v,hv,hrun⟩:=j70 hr.heap hg hq rfl
   rw[hrun w (Below.refl _ _)]
   exact hn M _ _ _ (Ext.refl M) h (hr.put hv o.dst) ⟨v,rfl⟩
 ·split at h
  ·rename_i req x H' hq
   cases req with
   |false=>cases h
   |true=>
    obtain⟨v,w',M',hrun,hE,hH,hb,hv⟩:=an_sound hr.heap hg hq rfl
    have hrel:Rel M' ⟨(st.put o.dst x).tmps,H'⟩ B w0 (a.put o.dst v) w' :=by
     have h1:=hr.withHeap hE hH hb
     have h2:=h1.put hv o.dst
     cases hd:o.dst<;>rw[hd]at h2<;>exact h2
    rcases hrun with hrun|⟨hrun,rfl⟩
    ·rw[hrun]
     exact hn M' _ _ _ hE h hrel ⟨_,rfl⟩
    ·rw[hrun]
     exact hn M' _ _ _ hE h hrel ⟨_,rfl⟩
  ·split at h
   ·rename_i f args hc
    split at h
    ·rename_i fn hf
     split at h
     ·rename_i c hb
      obtain⟨vs,hl,hrun⟩:=zsy hP hg hc hf (by rw[hb];rfl)
      rw[hrun w]
      rw[Oper.upon_enter]
      refine(hcal f args st.heap _ r h M B w vs hl hr.heap).mono ?_
      rintro e w' ⟨v,av,H',M',rfl,hk,hE,hH,hbl,hv⟩
      refine hn M' _ _ _ hE hk ?_ ⟨_,rfl⟩
      have h1:=hr.withHeap hE hH hbl
      have h2:=h1.put hv o.dst
      cases hd:o.dst<;>rw[hd]at h2<;>exact h2
     ·cases h
    ·cases h
   ·cases h
theorem qwf{P:Program}(hP:q0u P){cal:Cal ρ}(hcal:∀f,qex P f (cal f)){o:Oper}{st:St}{K:St→Option ρ}{r:ρ}(h:zbi P cal o st K=some r){M:List Place}{B:Base}{w0:World}{a:Act}{w:World}(hr:Rel M st B w0 a w)
  {next:Act→World→Prop} {Q:Exit→Act→World→Prop} (hn:∀M' st' a' w',Ext M M' →K st' =some r→Rel M' st' B w0 a' w' →next a' w'):o.wp P a w next Q:=
 z80 hP hcal h hr fun M' st' a' w' h1 h2 h3 _=>hn M' st' a' w' h1 h2 h3
def zu5(ops:Array Oper)(o:Oper)(st:St)(exec:St→(St→Option ρ)→Option ρ)(K:St→Option ρ):Option ρ:=
 match o.guard with
 |none=>exec st K
 |some (j,want)=>match ops[j]? with
  |some oj=>match oj.dst with
   |some d=>match st.tmps.getD d .undef with
    | .bool (some b) _=>cond (b==want) (exec st K) (K (st.put o.dst (.tup [])))
    | .bool none b=>cond b
      (cond want (exec (st.put (some d) (.bool (some true) true)) K) (K ((st.put (some d) (.bool (some true) true)).put o.dst (.tup []))))
      (cond want (K ((st.put (some d) (.bool (some false) false)).put o.dst (.tup []))) (exec (st.put (some d) (.bool (some false) false)) K))
    | .tup []=>K (st.put o.dst (.tup []))
    |_=>none
   |none=>none
  |none=>none
theorem qj3{a:Act}{d:Tmp}:a.put (some d) (a.tmps.getD d undef)=a:=by
 simp only[Act.put]
 congr 1
 apply Array.ext
 ·simp
 ·intro i h1 h2
  by_cases hd:d=i
  ·subst hd
   simp at h1
   simp[h1]
  ·rw[Array.getElem_setIfInBounds_ne (h:=hd)]
theorem qp4(M:List Place):RelV M (.tup []) undef:=by
 simp only[RelV,RelX]
 exact⟨#[],rfl,RelL_nil.2 rfl⟩
theorem zom{ops:Array Oper}{o:Oper}{st:St}{exec:St→(St→Option ρ)→Option ρ}{K:St→Option ρ}{r:ρ}(h:zu5 ops o st exec K=some r){M:List Place}{a:Act}(ht:RelT M st.tmps a.tmps):
  (Region.wanted o (yielded ops a.tmps)=true∧∃st' :St,exec st' K=some r∧RelT M st'.tmps a.tmps∧st'.heap=st.heap)∨
  (Region.wanted o (yielded ops a.tmps)=false∧∃st' :St,K (st'.put o.dst (.tup []))=some r∧RelT M st'.tmps a.tmps∧st'.heap=st.heap):=by
 unfold zu5 at h
 split at h
 ·rename_i hg
  exact .inl ⟨by simp[Region.wanted,hg],st,h,ht,rfl⟩
 ·rename_i j want hg
  split at h
  ·rename_i oj hj
   split at h
   ·rename_i d hd
    have hrd:=ht.2 d
    have yes:∀b:Bool,a.tmps.getD d undef= .bool b→yielded ops a.tmps j=some b:=by
     intro b hb
     unfold yielded
     simp only[hj,y5,hd]
     have:a.tmps[d]? =some (.bool b):=by
      by_cases hlt:d<a.tmps.size
      ·simp[hlt]at hb⊢
       exact hb
      ·simp[hlt,undef]at hb
     rw[this]
    have lit:∀b:Bool,a.tmps.getD d undef= .bool b→RelT M (st.put (some d) (.bool (some b) b)).tmps a.tmps:=by
     intro b hb
     have h1:=ht.put (x:= .bool (some b) b) (v:= .bool b) (by simp[RelV,RelX]) d
     rw[←hb]at h1
     have:=congrArg Act.tmps (qj3 (a:=a) (d:=d))
     simp only[Act.put]at this
     rw[this]at h1
     exact h1
    split at h
    ·rename_i b x hst
     rw[hst]at hrd
     obtain⟨e,hl⟩:=q25 hrd
     have:=hl b rfl
     subst this
     have hy:=yes _ e
     cases hbw:x==want
     ·rw[hbw]at h
      refine .inr ⟨?_,st,h,ht,rfl⟩
      simp only[Region.wanted,hg,hy]
      cases x<;>cases want<;>simp at hbw⊢
     ·rw[hbw]at h
      refine .inl ⟨?_,st,h,ht,rfl⟩
      simp only[Region.wanted,hg,hy]
      cases x<;>cases want<;>simp at hbw⊢
    ·rename_i x hst
     rw[hst]at hrd
     obtain⟨e,_⟩:=q25 hrd
     have hy:=yes _ e
     have hli:=lit _ e
     have hwant:Region.wanted o (yielded ops a.tmps)=(x==want):=by
      simp only[Region.wanted,hg,hy]
      cases x<;>cases want<;>simp
     cases x<;>cases want<;>simp only[cond]at h
     ·exact .inl ⟨by rw[hwant];rfl,_,h,hli,rfl⟩
     ·exact .inr ⟨by rw[hwant];rfl,_,h,hli,rfl⟩
     ·exact .inr ⟨by rw[hwant];rfl,_,h,hli,rfl⟩
     ·exact .inl ⟨by rw[hwant];rfl,_,h,hli,rfl⟩
    ·rename_i hst
     rw[hst]at hrd
     simp only[RelV,RelX]at hrd
     obtain⟨vs,e,hl⟩:=hrd
     have e:a.tmps.getD d undef= .tuple vs:=by simpa using e
     refine .inr ⟨?_,st,h,ht,rfl⟩
     have hy:yielded ops a.tmps j=none:=by
      unfold yielded
      simp only[hj,y5,hd]
      by_cases hlt:d<a.tmps.size
      ·simp[hlt]at e⊢
       rw[e]
      ·simp[hlt]
     simp only[Region.wanted,hg,hy]
     rfl
    ·cases h
   ·cases h
  ·cases h
def jb1:List AV→Bool
 |[]=>true
 | .is _ _ _::r=>jb1 r
 |_::_=>false
def ixOf(st:St):Op→Option (Tmp×IntKind×Int×Nat)
 | .indexAddr _ x (.tmp t)=>match st.tmps.getD t .undef with
  | .int k none z=>match st.get x with
   | .sl b _ len _ _=>match st.heap[b]? with
    |some (some ⟨.segs cs,_,_⟩)=>match jb1 cs with
     |true=>none
     |false=>some (t,k,z,len)
    |_=>none
   | .ptr b base none _ span=>match st.heap[b]? with
    |some (some ⟨.segs cs,_,_⟩)=>match z7s cs base span with
     |some _=>none
     |none=>some (t,k,z,span)
    |_=>none
   |_=>none
  |_=>none
 | .index _ x (.tmp t)=>match st.tmps.getD t .undef with
  | .int k none z=>match st.get x with
   | .agg cs=>match z7s cs 0 1 with
    |some _=>none
    |none=>some (t,k,z,cs.length)
   |_=>none
  |_=>none
 |_=>none
theorem jb2{st:St}{op:Op}{t:Tmp}{k:IntKind}{z:Int}{n:Nat}(h:ixOf st op=some (t,k,z,n)):st.tmps.getD t .undef= .int k none z:=by
 unfold ixOf at h
 repeat' split at h
 all_goals first|(cases h;done)|(cases h;assumption)
def j75(z:Int)(f:Int→Option ρ):Nat→Nat→Option ρ
 |0,_=>none
 |m+1,j=>cond (z==(j:Int)) (f (j:Int)) (j75 z f m (j+1))
theorem zhd{z:Int}{f:Int→Option ρ}{r:ρ}:∀{m j:Nat},j75 z f m j=some r→f z=some r
 |0,_,h=>by cases h
 |m+1,j,h=>by
  unfold j75 at h
  cases hz:z==(j:Int)
  ·rw[hz]at h;exact zhd h
  ·rw[hz]at h
   have:z=(j:Int):=by simpa using hz
   rw[this]
   exact h
def j4m(o:Oper)(exec:St→(St→Option ρ)→Option ρ)(st:St)(K:St→Option ρ):Option ρ:=
 match ixOf st o.op with
 |some (t,k,z,n)=>j75 z (fun j=>exec (st.put (some t) (.int k (some j) j)) K) n 0
 |none=>exec st K
theorem zu6{o:Oper}{exec:St→(St→Option ρ)→Option ρ}{st:St}{K:St→Option ρ}{r:ρ}(h:j4m o exec st K=some r){M:List Place}{a:Act}(ht:RelT M st.tmps a.tmps):
  ∃st',exec st' K=some r∧RelT M st'.tmps a.tmps∧st'.heap=st.heap:=by
 unfold j4m at h
 split at h
 ·rename_i t k z n hx
  refine⟨_,zhd h,?_,rfl⟩
  have h0:=ht.2 t
  rw[jb2 hx]at h0
  obtain⟨e,hk,_⟩:=q32 h0
  have h1:=ht.put (x:= .int k (some z) z) (v:= .int k z) (RelX_int.2 ⟨by simp,hk,fun m hm=>by cases hm;rfl⟩) t
  rw[←e]at h1
  have:=congrArg Act.tmps (qj3 (a:=a) (d:=t))
  simp only[Act.put]at this
  rw[this]at h1
  exact h1
 ·exact⟨st,h,ht,rfl⟩
def z81(ops:Array Oper)(o:Oper)(st:St)(exec:St→(St→Option ρ)→Option ρ)(K:St→Option ρ):Option ρ:=
 zu5 ops o st (j4m o exec) K
theorem qdc{ops:Array Oper}{o:Oper}{st:St}{exec:St→(St→Option ρ)→Option ρ}{K:St→Option ρ}{r:ρ}(h:z81 ops o st exec K=some r){M:List Place}{a:Act}(ht:RelT M st.tmps a.tmps):
  (Region.wanted o (yielded ops a.tmps)=true∧∃st' :St,exec st' K=some r∧RelT M st'.tmps a.tmps∧st'.heap=st.heap)∨
  (Region.wanted o (yielded ops a.tmps)=false∧∃st' :St,K (st'.put o.dst (.tup []))=some r∧RelT M st'.tmps a.tmps∧st'.heap=st.heap):=by
 rcases zom h ht with⟨hw,st',h1,h2,h3⟩|hr
 ·obtain⟨st2,k1,k2,k3⟩:=zu6 h1 h2
  exact .inl ⟨hw,st2,k1,k2,k3.trans h3⟩
 ·exact .inr hr
def j76(P:Program)(cal:Cal ρ)(ops:Array Oper):List Oper→St→(St→Option ρ)→Option ρ
 |[],st,K=>K st
 |o::l,st,K=>z81 ops o st (zbi P cal o) fun st' =>j76 P cal ops l st' K
theorem qcl{P:Program}(hP:q0u P){cal:Cal ρ}(hcal:∀f,qex P f (cal f)){ops:Array Oper}{Q:Exit→Act→World→Prop}{K:St→Option ρ}{r:ρ}{B:Base}{w0:World}:∀{l:List Oper} {st:St} {M:List Place} {a:Act} {w:World},
  j76 P cal ops l st K=some r→Rel M st B w0 a w→(∀M' st' a' w',Ext M M' →K st' =some r→Rel M' st' B w0 a' w' →Q .normal a' w')→wpList P ops Q l a w
 |[],st,M,a,w,h,hr,hn=>hn M st a w (Ext.refl M) h hr
 |o::l,st,M,a,w,h,hr,hn=>by
  unfold wpList
  rcases qdc h hr.tmps with⟨hw,st',h',ht,hh⟩|⟨hw,st',h',ht,hh⟩
  ·rw[iP hw]
   have hr' :Rel M st' B w0 a w:=⟨ht,hr.defers,by rw[hh];exact hr.heap,hr.below⟩
   exact .inl (qwf hP hcal h' hr' fun M' st2 a' w' hE hk hr2=>qcl hP hcal hk hr2 fun M2 st3 a3 w3 hE2=>hn M2 st3 a3 w3 (hE.trans hE2))
  ·rw[iN (by rw[hw];simp)]
   have hr' :Rel M st' B w0 a w:=⟨ht,hr.defers,by rw[hh];exact hr.heap,hr.below⟩
   exact qcl hP hcal h' (hr'.put (qp4 M) o.dst) hn
def j4n(P:Program)(qcal:QCal ρ)(o:Oper)(st:St)(K:St→Option ρ):Option ρ:=
 match aq P st.heap st.get o.op with
 |some (req,x)=>cond req (K (st.put o.dst x)) none
 |none=>match j74 st.get o.op with
  |some (f,args)=>match P.funcs[f]? with
   |some fn=>match fn.body with
    |some _=>qcal f args st.heap fun x=>K (st.put o.dst x)
    |none=>none
   |none=>none
  |none=>none
def zhe(P:Program)(qcal:QCal ρ)(ops:Array Oper):List Oper→St→(St→Option ρ)→Option ρ
 |[],st,K=>K st
 |o::l,st,K=>z81 ops o st (j4n P qcal o) fun st' =>zhe P qcal ops l st' K
theorem zu7{P:Program}(hP:q0u P){qcal:QCal ρ}(hq:∀f,qb3 P f (qcal f)){o:Oper}{st:St}{K:St→Option ρ}{r:ρ}(h:j4n P qcal o st K=some r){M:List Place}{B:Base}{a:Act}{w:World}(ht:RelT M st.tmps a.tmps)(hH:RelH M st.heap B w)
  {next:Act→Prop} (hn:∀st' v,K st' =some r→RelT M st'.tmps (a.put o.dst v).tmps→st'.heap=st.heap→next (a.put o.dst v)):o.quiet P a (fun w' =>Below w.heap.size w w') next:=by
 have hg:∀x,RelV M (st.get x) (a.eval x):=fun x=>qwc ht x
 have putT:∀(x:AV) (v:Value),RelV M x v→RelT M (st.put o.dst x).tmps (a.put o.dst v).tmps∧(st.put o.dst x).heap=st.heap:=by
  intro x v hv
  cases o.dst with
  |none=>exact⟨ht,rfl⟩
  |some d=>exact⟨ht.put hv d,rfl⟩
 unfold j4n at h
 split at h
 ·rename_i req x hqq
  cases req with
  |false=>cases h
  |true=>
   obtain⟨v,hv,hrun⟩:=j70 hH hg hqq rfl
   obtain⟨p1,p2⟩:=putT x v hv
   refine⟨v,fun w' hb=> ?_,hn _ v h p1 p2⟩
   unfold Oper.quietAt
   rw[hrun w' hb]
   exact⟨rfl,rfl⟩
 ·split at h
  ·rename_i f args hc
   split at h
   ·rename_i fn hf
    split at h
    ·rename_i c hb
     obtain⟨vs,hl,hrun⟩:=zsy hP hg hc hf (by rw[hb];rfl)
     obtain⟨v,av,hk,hv,hcalls⟩:=hq f args st.heap _ r h M B w vs hl hH
     obtain⟨p1,p2⟩:=putT av v hv
     refine⟨v,fun w' hbw=> ?_,hn _ v hk p1 p2⟩
     unfold Oper.quietAt
     rw[hrun w']
     exact⟨rfl,(hcalls w' hbw).mono fun e w'' ⟨he,hb2⟩=>⟨he,hbw.trans (hb2.mono hbw.size)⟩⟩
    ·cases h
   ·cases h
  ·cases h
theorem q7i{P:Program}(hP:q0u P){qcal:QCal ρ}(hq:∀f,qb3 P f (qcal f)){ops:Array Oper}{Qa:Act→Prop}{K:St→Option ρ}{r:ρ}{M:List Place}{B:Base}{w:World}{H:Heap}{ds:List Deferred}(hH:RelH M H B w):∀{l:List Oper} {st:St} {a:Act},
  zhe P qcal ops l st K=some r→RelT M st.tmps a.tmps→st.heap=H→a.defers=ds→(∀st' a',K st' =some r→RelT M st'.tmps a'.tmps→st'.heap=H→a'.defers=ds→Qa a')→wpQuiet P ops (fun w' =>Below w.heap.size w w') Qa l a
 |[],st,a,h,ht,hh,hd,hn=>hn st a h ht hh hd
 |o::l,st,a,h,ht,hh,hd,hn=>by
  unfold wpQuiet
  have dput:∀v,(a.put o.dst v).defers=ds:=fun v=>by cases o.dst<;>exact hd
  rcases qdc h ht with⟨hw,st',h',ht',hh'⟩|⟨hw,st',h',ht',hh'⟩
  ·rw[iP hw]
   exact zu7 hP hq h' ht' (by rw[hh',hh];exact hH) fun st2 v hk ht2 hh2=>q7i hP hq hH hk ht2 (by rw[hh2,hh',hh]) (dput v) hn
  ·rw[iN (by rw[hw];simp)]
   refine q7i hP hq hH h' ?_ ?_ (dput undef) hn
   ·cases o.dst with
    |none=>exact ht'
    |some d=>exact ht'.put (qp4 M) d
   ·cases o.dst<;>exact hh'.trans hh
end Go.AE
namespace Go.AE
open Go Go.RowKit
variable {ρ:Type}
theorem RelH.addS{M:List Place}{H:Heap}{B:Base}{w:World}(r:RelH M H B w){o:AObj}{pl:Place}(hok:qm8 M o pl B w)(hpin:∀k,o.pin=some k→B.pin k pl)(hvis:pl.nil=false→B.vis pl.blk)
  (hsep:∀(i:Nat) (oi:AObj) (pi:Place),H[i]? =some (some oi)→M[i]? =some pi→(oi.own=true∨o.own=true)→pi.nil=false→pl.nil=false→pi.blk≠pl.blk)
  (hz:∀k ob,pl.fz k=some ob→FzAt M k ob) (hfo:o.own=true→pl.nil=false→¬B.f pl.blk∧∀ob,¬FzAt M pl.blk ob):RelH (M++[pl]) (H++[some o]) B w:=by
 have hE:Ext M (M++[pl]):=Ext.snoc M _
 have hlen:=r.len
 have back:∀(i:Nat) (oi:AObj),(H++[some o])[i]? =some (some oi)→(i<M.length∧H[i]? =some (some oi))∨(i=M.length∧oi=o):=by
  intro i oi hi
  rw[List.getElem?_append]at hi
  split at hi
  ·exact .inl ⟨by omega,hi⟩
  ·have h3:i-H.length=0:=by
    rcases Nat.eq_zero_or_pos (i-H.length)with h|h
    ·exact h
    ·rw[w9 (by simp;omega)]at hi;cases hi
   rw[h3]at hi
   simp at hi
   exact .inr ⟨by omega,hi.symm⟩
 have place:∀(i:Nat) (pi:Place),(M++[pl])[i]? =some pi→i<M.length→M[i]? =some pi:=by
  intro i pi hpi hlt
  rwa [yg hlt]at hpi
 have last:∀(pi:Place),(M++[pl])[M.length]? =some pi→pi=pl:=by
  intro pi hpi
  simp at hpi
  exact hpi.symm
 have mono:∀(oi:AObj) (pi:Place),qm8 M oi pi B w→qm8 (M++[pl]) oi pi B w:=by
  intro oi pi h
  rcases h with⟨n1,n2,n3⟩|⟨n1,cs1,el1,fz1,g1,g2,g3,g4,g5⟩
  ·exact .inl ⟨n1,n2,n3.mono hE⟩
  ·exact .inr ⟨n1,cs1,el1,fz1,g1,g2,g3,g4.mono hE,g5⟩
 refine⟨by simp[hlen],r.base,fun i oi hi=> ?_,fun i j oi oj pi pj hi hj hpi hpj hne how hni hnj=> ?_,fun i oi pi k hi hpi hk=> ?_,fun i oi pi hi hpi hn=> ?_,fun k ob hk=>r.fz k ob (FzAt.snocS hz hk),fun i oi pi hi hpi how hn=> ?_,r.bf⟩
 ·rcases back i oi hi with⟨hlt,hi'⟩|⟨rfl,rfl⟩
  ·obtain⟨pi,hpi,hoki⟩:=r.obj i oi hi'
   exact⟨pi,hE _ _ hpi,mono _ _ hoki⟩
  ·exact⟨pl,by simp,mono _ _ hok⟩
 ·rcases back i oi hi with⟨hlt,hi'⟩|⟨rfl,rfl⟩<;>rcases back j oj hj with⟨hlt2,hj'⟩|⟨rfl,rfl⟩
  ·exact r.sep i j oi oj pi pj hi' hj' (place i pi hpi hlt) (place j pj hpj hlt2) hne how hni hnj
  ·have:=last pj hpj
   subst this
   exact hsep i oi pi hi' (place i pi hpi hlt) (.inl how) hni hnj
  ·have:=last pi hpi
   subst this
   exact fun h=>hsep j oj pj hj' (place j pj hpj hlt2) (.inr how) hnj hni h.symm
  ·exact absurd rfl hne
 ·rcases back i oi hi with⟨hlt,hi'⟩|⟨rfl,rfl⟩
  ·exact r.pin i oi pi k hi' (place i pi hpi hlt) hk
  ·rw[last pi hpi];exact hpin k hk
 ·rcases back i oi hi with⟨hlt,hi'⟩|⟨rfl,rfl⟩
  ·exact r.vis i oi pi hi' (place i pi hpi hlt) hn
  ·rw[last pi hpi]at hn⊢;exact hvis hn
 ·rcases back i oi hi with⟨hlt,hi'⟩|⟨rfl,rfl⟩
  ·exact⟨(r.fo i oi pi hi' (place i pi hpi hlt) how hn).1,fun ob h=>(r.fo i oi pi hi' (place i pi hpi hlt) how hn).2 ob (FzAt.snocS hz h)⟩
  ·rw[last pi hpi]at hn⊢;exact⟨(hfo how hn).1,fun ob h=>(hfo how hn).2 ob (FzAt.snocS hz h)⟩
theorem RelH.add{M:List Place}{H:Heap}{B:Base}{w:World}(r:RelH M H B w){o:AObj}{pl:Place}(hok:qm8 M o pl B w)(hpin:∀k,o.pin=some k→B.pin k pl)(hvis:pl.nil=false→B.vis pl.blk)
  (hsep:∀(i:Nat) (oi:AObj) (pi:Place),H[i]? =some (some oi)→M[i]? =some pi→(oi.own=true∨o.own=true)→pi.nil=false→pl.nil=false→pi.blk≠pl.blk)
  (hz:pl.fz=noFz) (hfo:o.own=true→pl.nil=false→¬B.f pl.blk∧∀ob,¬FzAt M pl.blk ob):RelH (M++[pl]) (H++[some o]) B w:=
 r.addS hok hpin hvis hsep (fun k ob h=>by rw[hz]at h;cases h) hfo
def qo4(H:Heap):List Nat→Heap
 |[]=>H
 |b::bs=>match H[b]? with
  |some (some o)=>(qo4 H bs).set b (some {o with own:=false})
  |_=>qo4 H bs
def zu8(H:Heap)(b:Nat):Bool:=match H[b]? with
 |some (some _)=>true
 |_=>false
def ownAt(H:Heap)(b:Nat):Bool:=match H[b]? with
 |some (some o)=>o.own
 |_=>false
def thaw(bs:List Nat):Heap→Nat→Heap→Option Heap
 |[],_,H' =>some (H'.map fun x=>match x with|some o=>if o.own then some o else none|none=>none)
 |_::_,_,[]=>none
 |none::H,i,none::H' =>(thaw bs H (i+1) H').map (none:: ·)
 |none::_,_,some _::_=>none
 |some _::H,i,none::H' =>(thaw bs H (i+1) H').map (none:: ·)
 |some o::H,i,some o' ::H' =>(thaw bs H (i+1) H').map (some (if(bs.contains i&&o.own)=true then{o' with own:=true}else o'):: ·)
def thawO(bs:List Nat)(H H' :Heap):Option Heap:=if(bs.any (ownAt H))=true then thaw bs H 0 H' else some H'
def Base.but(B:Base)(M:List Place)(bs:List Nat):Base:=⟨fun k=>B.w k∧∀b∈bs,∀pl,M[b]? =some pl→pl.nil=false→k≠pl.blk,B.vis,B.pin,fun k=>B.f k∨∃ob,FzAt M k ob,B.ds⟩
theorem q9c(H:Heap):∀(bs:List Nat) (i:Nat) (o:AObj),(qo4 H bs)[i]? =some (some o)→∃o',H[i]? =some (some o')∧o'.c=o.c∧o'.pin=o.pin∧(o.own=true→o'.own=true∧i∉bs)
 |[],i,o,h=>⟨o,h,rfl,rfl,fun e=>⟨e,by simp⟩⟩
 |b::bs,i,o,h=>by
  unfold qo4 at h
  split at h
  ·rename_i ob hb
   by_cases hi:b=i
   ·subst hi
    by_cases hl:b<(qo4 H bs).length
    ·rw[List.getElem?_set_self hl]at h
     cases h
     exact⟨ob,hb,rfl,rfl,fun e=>by cases e⟩
    ·rw[w9 (by simpa using hl)]at h
     cases h
   ·rw[List.getElem?_set_ne hi]at h
    obtain⟨o',h1,h2,h3,h4⟩:=q9c H bs i o h
    exact⟨o',h1,h2,h3,fun e=>⟨(h4 e).1,by simp only[yr,not_or];exact⟨fun e=>hi e.symm,(h4 e).2⟩⟩⟩
  ·rename_i hb
   obtain⟨o',h1,h2,h3,h4⟩:=q9c H bs i o h
   refine⟨o',h1,h2,h3,fun e=>⟨(h4 e).1,?_⟩⟩
   simp only[yr,not_or]
   refine⟨fun e=> ?_,(h4 e).2⟩
   subst e
   exact hb _ h1
theorem z3j(H:Heap):∀bs,(qo4 H bs).length=H.length
 |[]=>rfl
 |b::bs=>by
  unfold qo4
  split
  ·rw[List.length_set,z3j H bs]
  ·exact z3j H bs
theorem qzv{M:List Place}{o:AObj}{pl:Place}{B:Base}{w:World}(h:qm8 M o pl B w)(hn:pl.nil=false):pl.blk<w.heap.size:=by
 rcases h with⟨h1,_⟩|⟨_,cs,el,fz,hg,_⟩
 ·rw[hn]at h1;cases h1
 ·exact(Array.getElem?_eq_some_iff.1 hg).1
theorem RelH.freeze{M:List Place}{H:Heap}{B:Base}{w:World}(r:RelH M H B w){bs:List Nat}(hp:bs.all (zu8 H)=true):RelH M (qo4 H bs) (B.but M bs) w:=by
 have pres:∀b∈bs,∃o,H[b]? =some (some o):=by
  intro b hb
  have:=List.all_eq_true.1 hp b hb
  unfold zu8 at this
  split at this
  ·rename_i o ho;exact⟨o,ho⟩
  ·cases this
 refine⟨by rw[z3j,r.len],fun k hk=>⟨⟨(r.base k hk).1,?_⟩,(r.base k hk).2⟩,fun i o ho=> ?_,fun i j oi oj pi pj hi hj hpi hpj hij hoi hni hnj=> ?_,fun i o pl k ho hpl hk=> ?_,fun i o pl ho hpl hn=> ?_,fun k ob hk=>⟨(r.fz k ob hk).1,(r.fz k ob hk).2.1,.inr (.inr ⟨ob,hk⟩)⟩,fun i o pl ho hpl how hn=> ?_,fun k hk h=> ?_⟩
 ·intro b hb pl hpl hn e
  obtain⟨o,ho⟩:=pres b hb
  obtain⟨pl',hp',hok⟩:=r.obj b o ho
  rw[hpl]at hp';cases hp'
  have:=qzv hok hn
  omega
 ·obtain⟨o',h1,h2,h3,h4⟩:=q9c H bs i o ho
  obtain⟨pl,hpl,hok⟩:=r.obj i o' h1
  refine⟨pl,hpl,?_⟩
  rcases hok with⟨g1,g2,g3⟩|⟨g1,cs,el,fz,g2,g3,g4,g5,g6⟩
  ·exact .inl ⟨g1,g2,h2▸g3⟩
  ·refine .inr ⟨g1,cs,el,fz,g2,g3,g4,h2▸g5,fun e=> ?_⟩
   obtain⟨e1,e2⟩:=h4 e
   obtain⟨q1,q2,q3⟩:=g6 e1
   refine⟨q1,q2,q3,fun b hb pb hpb hnb=> ?_⟩
   obtain⟨ob,hob⟩:=pres b hb
   exact r.sep i b o' ob pl pb h1 hob hpl hpb (fun e=>e2 (e▸hb)) e1 g1 hnb
 ·obtain⟨oi',h1,_,_,h4⟩:=q9c H bs i oi hi
  obtain⟨oj',k1,_,_,_⟩:=q9c H bs j oj hj
  exact r.sep i j oi' oj' pi pj h1 k1 hpi hpj hij (h4 hoi).1 hni hnj
 ·obtain⟨o',h1,h2,h3,_⟩:=q9c H bs i o ho
  exact r.pin i o' pl k h1 hpl (h3▸hk)
 ·obtain⟨o',h1,_,_,_⟩:=q9c H bs i o ho
  exact r.vis i o' pl h1 hpl hn
 ·obtain⟨o',h1,_,_,h4⟩:=q9c H bs i o ho
  obtain⟨q1,q2⟩:=r.fo i o' pl h1 hpl (h4 how).1 hn
  exact⟨fun h=>h.elim q1 fun⟨ob,h⟩=>q2 ob h,q2⟩
 ·rcases h with h|⟨ob,h⟩
  ·exact r.bf k hk h
  ·exact absurd (r.fz_lt h) (by omega)
theorem zgo(bs:List Nat):∀{H:Heap} {n:Nat} {H' H2:Heap},thaw bs H n H' =some H2→H2.length=H'.length∧∀(i:Nat) (o:AObj),H2[i]? =some (some o)→
  ∃o',H'[i]? =some (some o')∧o'.c=o.c∧o'.pin=o.pin∧((H.length≤i∧o'.own=true∧o.own=true)∨(∃oi,H[i]? =some (some oi)∧(o'.own=o.own∨((n+i)∈bs∧oi.own=true∧o.own=true))))
 |[],n,H',H2,h=>by
  simp only[thaw,yf]at h
  subst h
  refine⟨by simp,fun i o ho=> ?_⟩
  rw[List.getElem?_map]at ho
  cases hx:H'[i]? with
  |none=>rw[hx]at ho;cases ho
  |some x=>
   rw[hx]at ho
   cases x with
   |none=>simp at ho
   |some o' =>
    simp only[Option.map_some,yf]at ho
    split at ho
    ·rename_i hown
     cases ho
     exact⟨o,rfl,rfl,rfl,.inl ⟨by simp,hown,hown⟩⟩
    ·cases ho
 |x::H,n,[],H2,h=>by cases x<;>simp[thaw]at h
 |none::H,n,none::H',H2,h=>by
  simp only[thaw,yi]at h
  obtain⟨H3,h3,rfl⟩:=h
  obtain⟨hl,hg⟩:=zgo bs h3
  refine⟨by simp[hl],fun i o ho=> ?_⟩
  cases i with
  |zero=>simp at ho
  |succ i=>
   obtain⟨o',g1,g2,g3,g4⟩:=hg i o (by simpa using ho)
   refine⟨o',by simpa using g1,g2,g3,?_⟩
   rcases g4 with⟨q1,q2⟩|⟨oi,q1,q2⟩
   ·exact .inl ⟨by simp;omega,q2⟩
   ·exact .inr ⟨oi,by simpa using q1,by rw[show n+(i+1)=n+1+i by omega];exact q2⟩
 |none::H,n,some o::H',H2,h=>by simp[thaw]at h
 |some oo::H,n,none::H',H2,h=>by
  simp only[thaw,yi]at h
  obtain⟨H3,h3,rfl⟩:=h
  obtain⟨hl,hg⟩:=zgo bs h3
  refine⟨by simp[hl],fun i o ho=> ?_⟩
  cases i with
  |zero=>simp at ho
  |succ i=>
   obtain⟨o',g1,g2,g3,g4⟩:=hg i o (by simpa using ho)
   refine⟨o',by simpa using g1,g2,g3,?_⟩
   rcases g4 with⟨q1,q2⟩|⟨oi,q1,q2⟩
   ·exact .inl ⟨by simp;omega,q2⟩
   ·exact .inr ⟨oi,by simpa using q1,by rw[show n+(i+1)=n+1+i by omega];exact q2⟩
 |some oo::H,n,some oo' ::H',H2,h=>by
  simp only[thaw,yi]at h
  obtain⟨H3,h3,rfl⟩:=h
  obtain⟨hl,hg⟩:=zgo bs h3
  refine⟨by simp[hl],fun i o ho=> ?_⟩
  cases i with
  |zero=>
   simp only[List.getElem?_cons_zero,yf]at ho
   subst ho
   refine⟨oo',rfl,by split<;>rfl,by split<;>rfl,.inr ⟨oo,rfl,?_⟩⟩
   split
   ·rename_i hc
    simp only[yl,List.contains_iff_mem]at hc
    exact .inr ⟨hc.1,hc.2,rfl⟩
   ·exact .inl rfl
  |succ i=>
   obtain⟨o',g1,g2,g3,g4⟩:=hg i o (by simpa using ho)
   refine⟨o',by simpa using g1,g2,g3,?_⟩
   rcases g4 with⟨q1,q2⟩|⟨oi,q1,q2⟩
   ·exact .inl ⟨by simp;omega,q2⟩
   ·exact .inr ⟨oi,by simpa using q1,by rw[show n+(i+1)=n+1+i by omega];exact q2⟩
theorem RelH.rebase{M:List Place}{H:Heap}{B B' :Base}{w:World}(r:RelH M H B w)(hw:∀k,B.w k→B'.w k)(hv:∀k,B.vis k→B'.vis k)(hp:∀k pl,B.pin k pl→B'.pin k pl)(hf:∀k ob,FzAt M k ob→B.w k∨B.f k→B'.w k∨B'.f k)(hf2:∀k,B'.f k→B.f k):RelH M H B' w:=by
 refine⟨r.len,fun k hk=>⟨hw _ (r.base k hk).1,hv _ (r.base k hk).2⟩,fun i o ho=> ?_,r.sep,fun i o pl k h1 h2 h3=>hp _ _ (r.pin i o pl k h1 h2 h3),fun i o pl h1 h2 h3=>hv _ (r.vis i o pl h1 h2 h3),fun k ob h=>⟨(r.fz k ob h).1,hv _ (r.fz k ob h).2.1,hf k ob h (r.fz k ob h).2.2⟩,fun i o pl h1 h2 h3 h4=>⟨fun h=>(r.fo i o pl h1 h2 h3 h4).1 (hf2 _ h),(r.fo i o pl h1 h2 h3 h4).2⟩,fun k hk h=>r.bf k hk (hf2 _ h)⟩
 obtain⟨pl,hpl,hok⟩:=r.obj i o ho
 refine⟨pl,hpl,?_⟩
 rcases hok with hok|⟨g1,cs,el,fz,g2,g3,g4,g5,g6⟩
 ·exact .inl hok
 ·exact .inr ⟨g1,cs,el,fz,g2,g3,g4,g5,fun e=>⟨(g6 e).1,(g6 e).2.1,hw _ (g6 e).2.2⟩⟩
theorem j4o{B:Base}{M:List Place}{bs:List Nat}{w w' :World}(h:Beneath (B.but M bs) w w'):Beneath B w w' :=
 ⟨h.os,h.tape,h.output,h.size,fun k hk hw=>h.block k hk fun h2=>hw h2.1⟩
theorem RelH.thaw{M M' :List Place}{H H' H2:Heap}{B:Base}{w w' :World}(r:RelH M H B w){bs:List Nat}(r' :RelH M' H' (B.but M bs) w')(hE:Ext M M')(hb:Beneath (B.but M bs) w w')(h:thawO bs H H' =some H2):RelH M' H2 B w' :=by
 have r2:RelH M' H' B w' :=r'.rebase (fun k h=>h.1) (fun k h=>h) (fun k pl h=>h) (fun k ob _ h=>h.elim (fun h=> .inl h.1) fun h=>h.elim .inr fun⟨ob,h⟩=>(r.fz k ob h).2.2) (fun k h=> .inl h)
 unfold thawO at h
 split at h
 case isFalse=>cases h;exact r2
 obtain⟨hl,hg⟩:=zgo bs h
 have was:∀(i:Nat) (o o' oi:AObj) (pl:Place),H'[i]? =some (some o')→M'[i]? =some pl→H[i]? =some (some oi)→oi.own=true→i∈bs→pl.nil=false→
   M[i]? =some pl∧qm8 M oi pl B w∧w'.heap[pl.blk]? =w.heap[pl.blk]? :=by
  intro i o o' oi pl _ hpl hoi hown hi hn
  obtain⟨pl0,hp0,hok⟩:=r.obj i oi hoi
  have:=hE i pl0 hp0
  rw[hpl]at this;cases this
  refine⟨hp0,hok,hb.block _ (qzv hok hn) fun h2=> ?_⟩
  exact h2.2 i hi pl hp0 hn rfl
 refine⟨by rw[hl,r'.len],r2.base,fun i o ho=> ?_,fun i j oi oj pi pj hi hj hpi hpj hij hoi hni hnj=> ?_,fun i o pl k ho hpl hk=> ?_,fun i o pl ho hpl hn=> ?_,r2.fz,fun i o pl ho hpl how hn=> ?_,r2.bf⟩
 ·obtain⟨o',g1,g2,g3,g4⟩:=hg i o ho
  obtain⟨pl,hpl,hok⟩:=r2.obj i o' g1
  refine⟨pl,hpl,?_⟩
  rcases hok with⟨q1,q2,q3⟩|⟨q1,cs,el,fz,q2,q3,q4,q5,q6⟩
  ·exact .inl ⟨q1,q2,g2▸q3⟩
  ·refine .inr ⟨q1,cs,el,fz,q2,q3,q4,g2▸q5,fun e=> ?_⟩
   rcases g4 with⟨_,s2,_⟩|⟨oi,s1,s2⟩
   ·exact q6 s2
   ·rcases s2 with s2|⟨s2,s3,_⟩
    ·exact q6 (s2.trans e)
    ·rw[Nat.zero_add]at s2
     obtain⟨t1,t2,t3⟩:=was i o o' oi pl g1 hpl s1 s3 s2 q1
     rcases t2 with⟨u1,_⟩|⟨_,cs0,el0,fz0,u1,u2,u3,u4,u5⟩
     ·rw[q1]at u1;cases u1
     ·rw[t3,u1]at q2
      cases q2
      exact u5 s3
 ·obtain⟨oi',g1,g2,g3,g4⟩:=hg i oi hi
  obtain⟨oj',k1,k2,k3,k4⟩:=hg j oj hj
  rcases g4 with⟨_,s2,_⟩|⟨oii,s1,s2⟩
  ·exact r2.sep i j oi' oj' pi pj g1 k1 hpi hpj hij s2 hni hnj
  ·rcases s2 with s2|⟨s2,s3,_⟩
   ·exact r2.sep i j oi' oj' pi pj g1 k1 hpi hpj hij (s2.trans hoi) hni hnj
   ·rcases k4 with⟨_,v2,_⟩|⟨ojj,v1,_⟩
    ·exact fun e=>r2.sep j i oj' oi' pj pi k1 g1 hpj hpi (Ne.symm hij) v2 hnj hni e.symm
    ·rw[Nat.zero_add]at s2
     obtain⟨p0,hp0,_⟩:=r.obj i oii s1
     obtain⟨p1,hp1,_⟩:=r.obj j ojj v1
     have e0:=hE i p0 hp0
     have e1:=hE j p1 hp1
     rw[hpi]at e0;cases e0
     rw[hpj]at e1;cases e1
     exact r.sep i j oii ojj pi pj s1 v1 hp0 hp1 hij s3 hni hnj
 ·obtain⟨o',g1,g2,g3,_⟩:=hg i o ho
  exact r2.pin i o' pl k g1 hpl (g3▸hk)
 ·obtain⟨o',g1,_,_,_⟩:=hg i o ho
  exact r2.vis i o' pl g1 hpl hn
 ·obtain⟨o',g1,g2,g3,g4⟩:=hg i o ho
  rcases g4 with⟨_,s2,_⟩|⟨oi,s1,s2⟩
  ·exact r2.fo i o' pl g1 hpl s2 hn
  ·rcases s2 with s2|⟨s2,s3,_⟩
   ·exact r2.fo i o' pl g1 hpl (s2.trans how) hn
   ·rw[Nat.zero_add]at s2
    obtain⟨t1,_,_⟩:=was i o o' oi pl g1 hpl s1 s3 s2 hn
    obtain⟨q1,q2⟩:=r.fo i oi pl s1 t1 s3 hn
    refine⟨q1,fun ob h=> ?_⟩
    rcases(r'.fz _ ob h).2.2 with h1|h1|⟨ob',h1⟩
    ·exact h1.2 i s2 pl t1 hn rfl
    ·exact q1 h1
    ·exact q2 ob' h1
def jb3(P:Program)(cal:Cal ρ)(o:Oper)(bs:List Nat)(st:St)(K:St→Option ρ):Option ρ:=
 if bs.all (zu8 st.heap)=true then
  zbi P cal o ⟨st.tmps,qo4 st.heap bs⟩ fun s' =>match thawO bs st.heap s'.heap with
   |some H=>K ⟨s'.tmps,H⟩
   |none=>none
 else none
theorem j0f{P:Program}(hP:q0u P){cal:Cal ρ}(hcal:∀f,qex P f (cal f)){o:Oper}{bs:List Nat}{st:St}{K:St→Option ρ}{r:ρ}(h:jb3 P cal o bs st K=some r){M:List Place}{B:Base}{w0:World}{a:Act}{w:World}(hr:Rel M st B w0 a w)
  {next:Act→World→Prop} {Q:Exit→Act→World→Prop} (hn:∀M' st' a' w',Ext M M' →K st' =some r→Rel M' st' B w0 a' w' →(∀b∈bs,∀pl,M[b]? =some pl→pl.nil=false→w'.heap[pl.blk]? =w.heap[pl.blk]?)→(∃v,a' =a.put o.dst v)→next a' w'):o.wp P a w next Q:=by
 unfold jb3 at h
 split at h
 case isFalse=>cases h
 rename_i hp
 have hr1:Rel M ⟨st.tmps,qo4 st.heap bs⟩ (B.but M bs) w a w:=⟨hr.tmps,hr.defers,hr.heap.freeze hp,Beneath.refl _ _⟩
 refine z80 hP hcal h hr1 fun M' st' a' w' hE hk hr' hact=> ?_
 split at hk
 ·rename_i H2 ht
  refine hn M' _ a' w' hE hk ⟨hr'.tmps,hr'.defers,hr.heap.thaw hr'.heap hE hr'.below ht,hr.below.trans (j4o hr'.below)⟩ (fun b hb pl hpl hnil=> ?_) hact
  have:=List.all_eq_true.1 hp b hb
  unfold zu8 at this
  split at this
  ·rename_i o' ho
   obtain⟨pl',hp',hok⟩:=hr.heap.obj b o' ho
   rw[hpl]at hp';cases hp'
   exact hr'.below.block _ (qzv hok hnil) fun h2=>h2.2 b hb pl hpl hnil rfl
  ·cases this
 ·cases hk
section
variable {P:Program} {ops:Array Oper} {Q:Exit→Act→World→Prop}
def depB(ops:Array Oper):Nat→Nat→Nat→Bool
 |0,_,_=>false
 |n+1,j,i=>match ops[j]? with
  |some o=>o.after.any fun e=>Region.binds .any e&&(e.on==i||depB ops n e.on i)
  |none=>false
def Closed(ops:Array Oper)(listed:Array Bool):Prop:=∀j o,ops[j]? =some o→listed.getD j false=true→∀e∈o.after,Region.binds .any e=true→listed.getD e.on false=true
theorem zon{listed:Array Bool}{i j:Nat}(h:(listed.setIfInBounds i true).getD j false=true):i=j∨listed.getD j false=true:=by
 by_cases hij:i=j
 ·exact .inl hij
 ·rw[getD_set_ne false hij]at h
  exact .inr h
theorem Closed.set{listed:Array Bool}{i:Nat}(h:Closed ops listed)(hr:i∈Region.ready .any ops listed):Closed ops (listed.setIfInBounds i true):=by
 intro j o ho hj e he hb
 rcases zon hj with rfl|hj
 ·obtain⟨_,o',ho',hall⟩:=mem_ready.1 hr
  rw[ho]at ho';cases ho'
  exact getD_set_true (hall e he hb)
 ·exact getD_set_true (h j o ho hj e he hb)
theorem zsz{listed:Array Bool}(hc:Closed ops listed):∀{n k i:Nat},listed.getD k false=true→depB ops n k i=true→listed.getD i false=true
 |0,_,_,_,h=>by cases h
 |n+1,k,i,hk,h=>by
  unfold depB at h
  split at h
  ·rename_i o ho
   obtain⟨e,he,hb⟩:=Array.any_eq_true'.1 h
   simp only[yl,Bool.or_eq_true,beq_iff_eq]at hb
   have h1:=hc k o ho hk e he hb.1
   rcases hb.2 with h2|h2
   ·rw[←h2];exact h1
   ·exact zsz hc h1 h2
  ·cases h
theorem jb4{listed:Array Bool}(hc:Closed ops listed){n j i:Nat}(hj:j∈Region.ready .any ops listed)(hi:listed.getD i false=false):depB ops n j i=false:=by
 cases n with
 |zero=>rfl
 |succ n=>
  cases h:depB ops (n+1) j i with
  |false=>rfl
  |true=>
   exfalso
   unfold depB at h
   obtain⟨_,o,ho,hall⟩:=mem_ready.1 hj
   rw[ho]at h
   obtain⟨e,he,hb⟩:=Array.any_eq_true'.1 h
   simp only[yl,Bool.or_eq_true,beq_iff_eq]at hb
   have h1:=hall e he hb.1
   rcases hb.2 with h2|h2
   ·rw[h2,hi]at h1;cases h1
   ·rw[zsz hc h1 h2]at hi;cases hi
def qtf(P:Program)(ops:Array Oper)(Q:Exit→Act→World→Prop)(N:Nat):Nat→List (Nat×Nat)→Array Bool→Act→World→Prop
 |0,_,listed,a,w=>Region.ready .any ops listed=[]∧Q .normal a w
 |f+1,Z,listed,a,w=>
  (Region.ready .any ops listed=[]→Q .normal a w)∧
  ∀j∈Region.ready .any ops listed,wpOp P ops Q j (fun a' w' =>(∀p∈Z,depB ops N j p.1=false→w'.heap[p.2]? =w.heap[p.2]?)∧∃Z',(∀p∈Z,p∈Z')∧qtf P ops Q N f Z' (listed.setIfInBounds j true) a' w') a w
theorem z82{N:Nat}:∀(f:Nat) (Z:List (Nat×Nat)) (listed:Array Bool) (a:Act) (w:World),qtf P ops Q N f Z listed a w→wpAny P .any ops Q f listed a w
 |0,_,_,_,_,h=>h
 |f+1,_,_,_,_,h=>⟨h.1,fun i hi=>wpOp_mono (fun a' w' h' =>by obtain⟨_,Z',_,h2⟩:=h';exact z82 f Z' _ a' w' h2) (h.2 i hi)⟩
theorem j4p{N:Nat}{Z Z0:List (Nat×Nat)}(hz:∀p∈Z0,p∈Z):∀{f:Nat} {listed:Array Bool} {a:Act} {w:World},qtf P ops Q N f Z listed a w→qtf P ops Q N f Z0 listed a w
 |0,_,_,_,h=>h
 |f+1,_,_,_,h=>⟨h.1,fun i hi=>wpOp_mono (fun a' w' h' =>by
   obtain⟨h1,Z',h2,h3⟩:=h'
   exact⟨fun p hp=>h1 p (hz p hp),Z',fun p hp=>h2 p (hz p hp),h3⟩) (h.2 i hi)⟩
theorem qwg{listed:Array Bool}{i:Nat}(h:listed.getD i true=false):listed.getD i false=false:=by
 rcases Nat.lt_or_ge i listed.size with h' |h'
 ·simp[h']at h⊢;exact h
 ·simp[Array.getElem?_eq_none h']at h
theorem zbj{N i:Nat}{oi:Oper}{v:Value}{G:List Nat}{S:World→Prop}(hi:ops[i]? =some oi)(hsel:∀(j:Nat) (o:Oper) cs b,ops[j]? =some o→o.op≠ .select cs b)
  (hQ:∀c a w,Q (.panic c) (a.put oi.dst v) w→Q (.panic c) a w) (hpres:∀w1 w2:World,(∀g∈G,w2.heap[g]? =w1.heap[g]?)→S w1→S w2):
  ∀(fuel:Nat) (Z:List (Nat×Nat)) (listed:Array Bool) (a:Act) (w:World),(∀g∈G,(i,g)∈Z)→Closed ops listed→
   (∀j oj,ops[j]? =some oj→j≠i→listed.getD j true=false→(∀e∈oj.after,Region.binds .any e=true→e.on≠i)→oi.apart ops oj=true)→
   i∈Region.ready .any ops listed→YieldsIf P ops S oi v a→S w→
   qtf P ops Q N fuel Z (listed.setIfInBounds i true) (a.put oi.dst v) w→qtf P ops Q N (fuel+1) Z listed a w:=by
 intro fuel
 induction fuel with
 |zero=>
  intro Z listed a w hZ hc _ hr hy hS H
  refine⟨fun h=>(by rw[h]at hr;cases hr),fun j hj=> ?_⟩
  by_cases hji:j=i
  ·subst hji;exact hy.wpOp hi hS ⟨fun _ _ _=>rfl,Z,fun _ h=>h,H⟩
  ·have:=ready_mono hj hji
   rw[H.1]at this
   cases this
 |succ fuel ih=>
  intro Z listed a w hZ hc hfree hr hy hS H
  refine⟨fun h=>(by rw[h]at hr;cases hr),fun j hj=> ?_⟩
  by_cases hji:j=i
  ·subst hji;exact hy.wpOp hi hS ⟨fun _ _ _=>rfl,Z,fun _ h=>h,H⟩
  ·have h1:=H.2 j (ready_mono hj hji)
   obtain⟨hjun,oj,hoj,hall⟩:=mem_ready.1 hj
   have hiun:=(mem_ready.1 hr).1
   have hdep:depB ops N j i=false:=jb4 hc hj (qwg hiun)
   have hnot:∀e∈oj.after,Region.binds .any e=true→e.on≠i:=fun e he hb heq=>by
    have h1:=hall e he hb
    rw[heq,qwg hiun]at h1
    cases h1
   have h2:=wpOp_putIf hoj (hfree j oj hoj hji hjun hnot) (fun cs b=>hsel i oi cs b hi) (fun cs b=>hsel j oj cs b hoj) hQ hy h1
   have hfree' :∀k ok,ops[k]? =some ok→k≠i→(listed.setIfInBounds j true).getD k true=false→
     (∀e∈ok.after,Region.binds .any e=true→e.on≠i)→oi.apart ops ok=true:=fun k ok hk hki hun hno=>by
    refine hfree k ok hk hki ?_ hno
    by_cases hjk:j=k
    ·subst hjk;exact hjun
    ·rw[getD_set_ne true hjk]at hun;exact hun
   refine wpOp_mono (fun a' w' h3=> ?_) h2
   obtain⟨hy',hk1,Z',hZ',h4⟩:=h3
   refine⟨hk1,Z',hZ',ih Z' (listed.setIfInBounds j true) a' w' (fun g hg=>hZ' _ (hZ g hg)) (hc.set hj) hfree' (ready_mono hr (Ne.symm hji)) hy' (hpres w w' (fun g hg=>hk1 _ (hZ g hg) hdep) hS) ?_⟩
   rw[Array.setIfInBounds_comm _ _ hji]
   exact h4
theorem j4q{N:Nat}{Z:List (Nat×Nat)}{listed:Array Bool}{a:Act}{w:World}(hr:Region.ready .any ops listed=[])(h:Q .normal a w):∀f,qtf P ops Q N f Z listed a w
 |0=>⟨hr,h⟩
 |_+1=>⟨fun _=>h,by rw[hr];simp⟩
end
end Go.AE
namespace Go.AE
open Go Go.RowKit
variable {ρ:Type}
def zgp:Operand→Bool
 | .const _=>true
 |_=>false
def mkr(P:Program)(o:Oper):Option ((Nat→AV)×Cont):=match o.guard with
 |some _=>none
 |none=>match o.op with
  | .alloc t=>match z7x P t with
   |some cs=>some (fun n=> .ptr n 0 none (wid cs) (wid cs),.segs cs)
   |none=>none
  | .buildSlice t len parts=>if parts.toList.all (fun z=>zgp z.2)=true then
    match qki P [] t len (parts.toList.map fun z=>(z.1,St.get ⟨[],[]⟩ z.2))with
    |some (.sl _ _ l s _,[some ⟨.row k r,_,_⟩])=>some (fun n=> .sl n 0 l s .own,.row k r)
    |_=>none
   else none
  |_=>none
structure Makes (P:Program) (o:Oper) (f:Nat→AV) (c:Cont) (val:Nat→Value) (cs:Array Value) (el:TypeId) (k:Nat):Prop where
 guard:o.guard=none
 run:∀(a:Act) (w:World),(execOp a.eval o).run P w= .ok (.value (val w.heap.size)) (w.alloc (.cells cs el))
 le:k≤cs.size
 cont:∀M,RelO M c (cs.toList.take k)
 rel:∀(M:List Place) (n g:Nat),M[n]? =some ⟨false,g,0,k,cs.size,noFz⟩→RelV M (f n) (val g)
theorem j0g{P:Program}{o:Oper}{f:Nat→AV}{c:Cont}(h:mkr P o=some (f,c)):∃val cs el k,Makes P o f c val cs el k:=by
 unfold mkr at h
 split at h
 ·cases h
 ·rename_i hg
  split at h
  ·rename_i t hop
   split at h
   ·rename_i cz hz
    cases h
    obtain⟨_,z,_,_,hrun,hrel⟩:=qp2 hz
    have hl:=q7h (hrel [])
    simp at hl
    refine⟨fun g=> .pointer (some ⟨g,0,none⟩),z.cells,t,wid cz,hg,fun a w=> ?_,by omega,fun M=> ?_,fun M n g hM=> ?_⟩
    ·simp[execOp,hop,Instr.alloc,hrun w,newVar,newRow,newObj,Sem.run]
    ·rw[List.take_of_length_le (by simp;omega)]
     exact hrel M
    ·simp only[RelV,RelX]
     exact⟨_,hM,rfl,by simp,by simp,by simp⟩
   ·cases h
  ·rename_i t len parts hop
   split at h
   ·rename_i hc
    split at h
    ·rename_i b0 off l s cap k r ow pn hb
     cases h
     have hget:∀x:Operand,zgp x=true→∀(a:Act) M,RelV M (St.get ⟨[],[]⟩ x) (a.eval x):=by
      intro x hx a M
      cases x with
      |const v=>exact zh8 M v
      |_=>cases hx
     have hall:=List.all_eq_true.1 hc
     have key:∀a:Act,∃(cells:Array Value) (e:TypeId),l=len∧RelO [] (.row k r) cells.toList∧cells.size=len*s∧IntKind.i64.has (len:Int)∧
       ∀w,(execOp a.eval o).run P w= .ok (.value (.slice (some ⟨w.heap.size,0,none⟩) len len)) (w.alloc (.cells cells e)):=by
      intro a
      have hg2:∀x:Operand,RelV [] (if zgp x=true then St.get ⟨[],[]⟩ x else .undef) (a.eval x):=by
       intro x
       split
       ·rename_i hx;exact hget x hx a []
       ·exact q43 _ _
      have he:(parts.toList.map fun z=>(z.1,St.get ⟨[],[]⟩ z.2))=parts.toList.map fun z=>(z.1,if zgp z.2=true then St.get ⟨[],[]⟩ z.2 else .undef):=by
       refine List.map_congr_left fun z hz=> ?_
       rw[iP (hall z hz)]
      rw[he]at hb
      obtain⟨c',cells,e,s',q1,q2,q3,q4,q5,q6⟩:=qwe (M:=[]) hg2 hop hb
      simp only[List.length_nil,AV.sl.injEq]at q1
      obtain⟨_,_,rfl,rfl,_⟩:=q1
      simp only[List.nil_append,List.cons.injEq,yf,AObj.mk.injEq,and_true]at q2
      obtain⟨rfl,_⟩:=q2
      exact⟨cells,e,rfl,q3,q4,q5,q6⟩
     obtain⟨cells,e,rfl,q3,q4,q5,q6⟩:=key ⟨#[],[]⟩
     refine⟨fun g=> .slice (some ⟨g,0,none⟩) l l,cells,e,l*s,hg,fun a w=> ?_,by omega,fun M=> ?_,fun M n g hM=> ?_⟩
     ·have hex:execOp a.eval o=execOp (⟨#[],[]⟩:Act).eval o:=by
       have hp:(parts.map fun(x:Nat×Operand)=>(x.1,a.eval x.2))=parts.map fun(x:Nat×Operand)=>(x.1,(⟨#[],[]⟩:Act).eval x.2):=by
        refine Array.map_congr_left fun x hx=> ?_
        have:=hall x (by simpa using hx)
        cases hx2:x.2 with
        |const v=>rfl
        |_=>rw[hx2]at this;cases this
       simp only[execOp,hop]
       rw[hp]
      rw[hex]
      exact q6 w
     ·rw[List.take_of_length_le (by simp;omega)]
      exact q3
     ·simp only[RelV,RelX]
      exact⟨_,_,_,hM,rfl,by simp,wa _,fun h=>(by cases h),fun _=>⟨by simp,fun _=>by simp⟩,fun h=>(by cases h),fun _=>by simp[q4],fun h=>(by cases h),q5⟩
    ·cases h
   ·cases h
  ·cases h
def mkrs(P:Program)(ops:Array Oper):List (Nat×Tmp):=(yy ops.size).filterMap fun i=>match ops[i]? with
 |some o=>match o.dst with
  |some d=>if(mkr P o).isSome=true then some (i,d)else none
  |none=>none
 |none=>none
def j77(ops:Array Oper)(ms:List (Nat×Tmp)):Bool:=ms.all fun m=>(yy ops.size).all fun j=>j==m.1||match ops[j]? with
 |some o=> !(o.dst==some m.2)
 |none=>true
def q33(listed:Array Bool):List (Nat×Tmp)→St→St
 |[],st=>st
 |(i,d)::ms,st=>if listed.getD i true=true then q33 listed ms st else q33 listed ms ⟨st.tmps.set d .undef,st.heap⟩
theorem qcb(listed:Array Bool):∀(ms:List (Nat×Tmp)) (st:St),(q33 listed ms st).heap=st.heap
 |[],_=>rfl
 |(i,d)::ms,st=>by
  unfold q33
  split
  ·exact qcb listed ms st
  ·rw[qcb listed ms]
theorem z83(listed:Array Bool):∀(ms:List (Nat×Tmp)) (st:St),(q33 listed ms st).tmps.length=st.tmps.length
 |[],_=>rfl
 |(i,d)::ms,st=>by
  unfold q33
  split
  ·exact z83 listed ms st
  ·rw[z83 listed ms];simp
theorem qzw(listed:Array Bool):∀(ms:List (Nat×Tmp)) (st:St) (t:Nat),(q33 listed ms st).tmps.getD t .undef=st.tmps.getD t .undef∨(q33 listed ms st).tmps.getD t .undef= .undef
 |[],_,_=> .inl rfl
 |(i,d)::ms,st,t=>by
  unfold q33
  split
  ·exact qzw listed ms st t
  ·rcases qzw listed ms ⟨st.tmps.set d .undef,st.heap⟩ t with h|h
   ·rw[h]
    by_cases hd:d=t
    ·subst hd
     right
     by_cases hl:d<st.tmps.length
     ·simp[ye,hl]
     ·simp only[ye]
      rw[w9 (by simpa using hl)]
      rfl
    ·left
     simp[ye,List.getElem?_set_ne hd]
   ·exact .inr h
theorem qwh(listed:Array Bool):∀(ms:List (Nat×Tmp)) (st:St) {i:Nat} {d:Tmp},(i,d)∈ms→listed.getD i true=false→(q33 listed ms st).tmps.getD d .undef= .undef
 |(i',d')::ms,st,i,d,hm,hl=>by
  rcases yr.1 hm with h|h
  ·cases h
   unfold q33
   rw[iN (by rw[hl];decide)]
   rcases qzw listed ms ⟨st.tmps.set d' .undef,st.heap⟩ d' with h|h
   ·rw[h]
    by_cases hl:d' <st.tmps.length
    ·simp[ye,hl]
    ·simp only[ye]
     rw[w9 (by simpa using hl)]
     rfl
   ·exact h
  ·unfold q33
   split<;>exact qwh listed ms _ h hl
theorem RelT.clear{M:List Place}{st:St}{a:Array Value}(h:RelT M st.tmps a)(listed:Array Bool)(ms:List (Nat×Tmp)):RelT M (q33 listed ms st).tmps a:=by
 refine⟨by rw[z83,h.1],fun t=> ?_⟩
 rcases qzw listed ms st t with e|e
 ·rw[e];exact h.2 t
 ·rw[e];exact q43 _ _
theorem RelT.putAny{M:List Place}{ts:List AV}{a:Array Value}(h:RelT M ts a){d:Tmp}(hd:ts.getD d .undef= .undef)(v:Value):RelT M ts (a.setIfInBounds d v):=by
 refine⟨by simp[h.1],fun t=> ?_⟩
 by_cases e:d=t
 ·subst e;rw[hd];exact q43 _ _
 ·have:=h.2 t
  rwa [show(a.setIfInBounds d v).getD t undef=a.getD t undef by simp[Array.getElem?_setIfInBounds_ne e]]
def Base.less(B:Base)(E:List (Nat×Nat)):Base:=⟨fun k=>B.w k∧∀p∈E,k≠p.2,fun k=>B.vis k∧∀p∈E,k≠p.2,B.pin,B.f,B.ds⟩
def lst(E:List (Nat×Nat))(listed:Array Bool):Array Bool:=E.foldl (fun l p=>l.setIfInBounds p.1 true) listed
theorem z84(E:List (Nat×Nat))(listed:Array Bool)(i:Nat):lst E (listed.setIfInBounds i true)=(lst E listed).setIfInBounds i true:=by
 induction E generalizing listed with
 |nil=>rfl
 |cons p E ih=>
  show lst E ((listed.setIfInBounds i true).setIfInBounds p.1 true)=(lst E (listed.setIfInBounds p.1 true)).setIfInBounds i true
  by_cases h:i=p.1
  ·subst h
   rw[←ih]
  ·rw[Array.setIfInBounds_comm _ _ h,ih]
theorem lst_snoc(E:List (Nat×Nat))(p:Nat×Nat)(listed:Array Bool):lst (E++[p]) listed=(lst E listed).setIfInBounds p.1 true:=by
 simp[lst,List.foldl_append]
theorem zhf(l:Array Bool)(i:Nat):(l.setIfInBounds i true).setIfInBounds i true=l.setIfInBounds i true:=by
 apply Array.ext
 ·simp
 ·intro j h1 h2
  by_cases hj:i=j
  ·subst hj;simp
  ·simp[Array.getElem_setIfInBounds_ne (h:=hj)]
theorem j4r{E:List (Nat×Nat)}{p:Nat×Nat}(hp:p∈E)(listed:Array Bool):(lst E listed).setIfInBounds p.1 true=lst E listed:=by
 induction E generalizing listed with
 |nil=>cases hp
 |cons q E ih=>
  show(lst E (listed.setIfInBounds q.1 true)).setIfInBounds p.1 true=lst E (listed.setIfInBounds q.1 true)
  rcases yr.1 hp with rfl|hp
  ·rw[←z84,zhf]
  ·exact ih hp _
theorem jb5{E:List (Nat×Nat)}{p:Nat×Nat}(hp:p∈E)(listed:Array Bool):lst (E.erase p) (listed.setIfInBounds p.1 true)=lst E listed:=by
 induction E generalizing listed with
 |nil=>cases hp
 |cons q E ih=>
  by_cases h:q=p
  ·subst h
   rw[List.erase_cons_head]
   rfl
  ·have hp' :p∈E:=by
    rcases yr.1 hp with e|e
    ·exact absurd e.symm h
    ·exact e
   rw[List.erase_cons_tail (by simpa using h)]
   show lst (E.erase p) ((listed.setIfInBounds p.1 true).setIfInBounds q.1 true)=lst E (listed.setIfInBounds q.1 true)
   by_cases e:p.1=q.1
   ·have:=ih hp' (listed.setIfInBounds q.1 true)
    rw[e,zhf]at this
    rw[e,zhf]
    exact this
   ·rw[Array.setIfInBounds_comm _ _ e,ih hp']
theorem qrj{E:List (Nat×Nat)}{listed:Array Bool}{j:Nat}(h:listed.getD j false=true):(lst E listed).getD j false=true:=by
 induction E generalizing listed with
 |nil=>exact h
 |cons p E ih=>exact ih (getD_set_true h)
theorem qrk{E:List (Nat×Nat)}{listed:Array Bool}{j:Nat}(h:∀p∈E,p.1≠j)(d:Bool):(lst E listed).getD j d=listed.getD j d:=by
 induction E generalizing listed with
 |nil=>rfl
 |cons p E ih=>
  show(lst E (listed.setIfInBounds p.1 true)).getD j d=_
  rw[ih fun q hq=>h q (List.mem_cons_of_mem _ hq),getD_set_ne d (h p (List.mem_cons_self ..))]
theorem lst_size(E:List (Nat×Nat))(listed:Array Bool):(lst E listed).size=listed.size:=by
 induction E generalizing listed with
 |nil=>rfl
 |cons p E ih=>
  show(lst E (listed.setIfInBounds p.1 true)).size=_
  rw[ih];simp
def cntF(l:Array Bool):Nat:=(l.toList.filter fun b=> !b).length
theorem j78{l:Array Bool}{i:Nat}(h:l.getD i true=false):cntF (l.setIfInBounds i true)+1=cntF l:=by
 have hi:i<l.size:=by
  rcases Nat.lt_or_ge i l.size with h' |h'
  ·exact h'
  ·simp[Array.getElem?_eq_none h']at h
 have hv:l[i]=false:=by simpa[hi]using h
 unfold cntF
 have key:∀(xs:List Bool) (i:Nat),xs[i]? =some false→((xs.set i true).filter fun b=> !b).length+1=(xs.filter fun b=> !b).length:=by
  intro xs
  induction xs with
  |nil=>intro i h;cases h
  |cons x xs ih=>
   intro i h
   cases i with
   |zero=>
    simp at h
    subst h
    simp
   |succ i=>
    have:=ih i (by simpa using h)
    cases x<;>simp at this⊢<;>omega
 rw[Array.toList_setIfInBounds]
 exact key _ _ (by simp[hi,hv])
theorem zhg{ops:Array Oper}{E:List (Nat×Nat)}{listed:Array Bool}{j:Nat}(hj:j∈Region.ready .any ops listed)(hne:∀p∈E,p.1≠j):j∈Region.ready .any ops (lst E listed):=by
 rw[mem_ready]at*
 obtain⟨h0,o,ho,hall⟩:=hj
 exact⟨by rw[qrk hne];exact h0,o,ho,fun e he hb=>qrj (hall e he hb)⟩
theorem j93{ops:Array Oper}{E:List (Nat×Nat)}{listed:Array Bool}(hc:Closed ops listed)(hE:∀p∈E,p.1∈Region.ready .any ops listed):Closed ops (lst E listed):=by
 intro j o ho hj e he hb
 by_cases hm:∃p∈E,p.1=j
 ·obtain⟨p,hp,rfl⟩:=hm
  obtain⟨_,o',ho',hall⟩:=mem_ready.1 (hE p hp)
  rw[ho]at ho';cases ho'
  exact qrj (hall e he hb)
 ·have hne:∀p∈E,p.1≠j:=fun p hp h=>hm ⟨p,hp,h⟩
  rw[qrk hne]at hj
  exact qrj (hc j o ho hj e he hb)
theorem zt0{ops:Array Oper}{E:List (Nat×Nat)}{listed:Array Bool}{l:List Nat}(hE:∀p∈E,p.1∈l){k:Nat}(hk:k∈Region.ready .any ops (lst E listed))(hkl:k∉l):k∈Region.ready .any ops (l.foldl (fun a i=>a.setIfInBounds i true) listed):=by
 have up:∀(l:List Nat) (a:Array Bool) (j:Nat),a.getD j false=true→(l.foldl (fun a i=>a.setIfInBounds i true) a).getD j false=true:=by
  intro l
  induction l with
  |nil=>intro a j h;exact h
  |cons i l ih=>intro a j h;exact ih _ _ (getD_set_true h)
 have keep:∀(l:List Nat) (a:Array Bool) (j:Nat),j∉l→(l.foldl (fun a i=>a.setIfInBounds i true) a).getD j true=a.getD j true:=by
  intro l
  induction l with
  |nil=>intro a j h;rfl
  |cons i l ih=>
   intro a j h
   simp only[yr,not_or]at h
   rw[List.foldl_cons,ih _ _ h.2,getD_set_ne true (fun e=>h.1 e.symm)]
 have hit:∀(l:List Nat) (a:Array Bool) (j:Nat),j∈l→j<a.size→(l.foldl (fun a i=>a.setIfInBounds i true) a).getD j false=true:=by
  intro l
  induction l with
  |nil=>intro a j h;cases h
  |cons i l ih=>
   intro a j h hj
   rcases yr.1 h with rfl|h
   ·exact up l _ _ (by simp[hj])
   ·exact ih _ _ h (by simpa using hj)
 rw[mem_ready]at*
 obtain⟨h0,o,ho,hall⟩:=hk
 have hne:∀p∈E,p.1≠k:=fun p hp e=>hkl (e▸hE p hp)
 rw[qrk hne]at h0
 refine⟨by rw[keep _ _ _ hkl];exact h0,o,ho,fun e he hb=> ?_⟩
 have h1:=hall e he hb
 by_cases hm:∃p∈E,p.1=e.on
 ·obtain⟨p,hp,hpe⟩:=hm
  refine hit l listed _ (hpe▸hE p hp) ?_
  rcases Nat.lt_or_ge e.on listed.size with h' |h'
  ·exact h'
  ·rw[show(lst E listed).getD e.on false=false by simp[Array.getElem?_eq_none (show(lst E listed).size≤e.on by rw[lst_size];exact h')]]at h1
   cases h1
 ·rw[qrk (fun p hp h=>hm ⟨p,hp,h⟩)]at h1
  exact up _ _ _ h1
end Go.AE
namespace Go.AE
open Go Go.RowKit
section
variable {P:Program} {ops:Array Oper} {md:Region.Mode} {C:World→Prop}
def z85(P:Program)(md:Region.Mode)(ops:Array Oper)(C:World→Prop)(n:Nat)(L:Array Bool→Act→Prop):Nat→Array Bool→Act→Prop
 |0,listed,a=>L listed a
 |f+1,listed,a=>
  Region.ready md ops listed≠[]∧∀i∈Region.ready md ops listed,i<n∧qOp P ops C i (z85 P md ops C n L f (listed.setIfInBounds i true)) a
theorem qo5{n g:Nat}{L:Array Bool→Act→Prop}{Q' :Exit→Act→World→Prop}(hL:∀listed a w,C w→L listed a→wpAny P md ops Q' g listed a w):
  ∀(f:Nat) (listed:Array Bool) (a:Act) (w:World),C w→z85 P md ops C n L f listed a→wpAny P md ops Q' (f+g) listed a w
 |0,listed,a,w,hw,h=>by rw[Nat.zero_add];exact hL _ _ _ hw h
 |f+1,listed,a,w,hw,h=>by
  rw[show f+1+g=(f+g)+1 by omega]
  exact⟨fun h0=>absurd h0 h.1,fun i hi=>wpOp_of_qOp hw (fun a' w' hw' h' =>qo5 hL f _ a' w' hw' h') (h.2 i hi).2⟩
theorem zu9{n i:Nat}{oi:Oper}{v:Value}{L:Array Bool→Act→Prop}(hi:ops[i]? =some oi)(hsel:∀(j:Nat) (o:Oper) cs b,ops[j]? =some o→o.op≠ .select cs b)
  (hs:Region.sinkB md ops n=true) (hc:Region.chainB md ops n=true) (hn:n<ops.size) (hin:i<n)
  (hdone:∀listed a,L listed a→∀j∈Region.ready md ops listed,n≤j):
  ∀(f:Nat) (listed:Array Bool) (a:Act),HeadInv md ops n listed→
   (∀j oj,ops[j]? =some oj→j≠i→listed.getD j true=false→(∀e∈oj.after,Region.binds md e=true→e.on≠i)→oi.apart ops oj=true)→
   i∈Region.ready md ops listed→YieldsIn P ops C oi v a→
   z85 P md ops C n L f (listed.setIfInBounds i true) (a.put oi.dst v)→z85 P md ops C n L (f+1) listed a:=by
 intro f
 induction f with
 |zero=>
  intro listed a inv _ hr hy H
  have hun:=(mem_ready.1 hr).1
  refine⟨fun h=>(by rw[h]at hr;cases hr),fun j hj=> ?_⟩
  have hjn:j<n:=by
   rcases Nat.lt_or_ge j n with h|h
   ·exact h
   ·exact absurd hj (tail_waits hs hc hn inv _ i rfl hin hun j h)
  refine⟨hjn,?_⟩
  by_cases hji:j=i
  ·subst hji;exact hy.qOp hi H
  ·have:=hdone _ _ H j (ready_mono hj hji)
   omega
 |succ f ih=>
  intro listed a inv hfree hr hy H
  have hun:=(mem_ready.1 hr).1
  refine⟨fun h=>(by rw[h]at hr;cases hr),fun j hj=> ?_⟩
  have hjn:j<n:=by
   rcases Nat.lt_or_ge j n with h|h
   ·exact h
   ·exact absurd hj (tail_waits hs hc hn inv _ i rfl hin hun j h)
  refine⟨hjn,?_⟩
  by_cases hji:j=i
  ·subst hji;exact hy.qOp hi H
  ·have h1:=(H.2 j (ready_mono hj hji)).2
   obtain⟨hjun,oj,hoj,hall⟩:=mem_ready.1 hj
   have hnot:∀e∈oj.after,Region.binds md e=true→e.on≠i:=fun e he hb heq=>by
    have h1:=hall e he hb
    rw[heq,getD_both hun]at h1
    cases h1
   have h2:=qOp_put hoj (hfree j oj hoj hji hjun hnot) (fun cs b=>hsel i oi cs b hi) (fun cs b=>hsel j oj cs b hoj) hy h1
   have hfree' :∀k ok,ops[k]? =some ok→k≠i→(listed.setIfInBounds j true).getD k true=false→
     (∀e∈ok.after,Region.binds md e=true→e.on≠i)→oi.apart ops ok=true:=fun k ok hk hki hun hno=>by
    refine hfree k ok hk hki ?_ hno
    by_cases hjk:j=k
    ·subst hjk;exact hjun
    ·rw[getD_set_ne true hjk]at hun;exact hun
   refine qOp_mono (fun a' h3=>ih (listed.setIfInBounds j true) a' (inv.set hj hjn) hfree' (ready_mono hr (Ne.symm hji)) h3.1 ?_) h2
   rw[Array.setIfInBounds_comm _ _ hji]
   exact h3.2
theorem qrl{n g:Nat}{Lq:Act→Prop}(hsel:Region.noSelect ops=true)(hs:Region.sinkB md ops n=true)(hc:Region.chainB md ops n=true)(hn:n<ops.size):
  ∀(l:List Oper) (k:Nat) (listed:Array Bool) (a:Act),(∀j,j<l.length→l[j]? =ops[k+j]?)→k+l.length=n→HeadInv md ops n listed→
  Region.lexHead md ops g l.length k listed=true→wpQuiet P ops C Lq l a→
  z85 P md ops C n (fun listed' a' =>Region.seqB md ops g n listed' =true∧Lq a') l.length listed a
 |[],k,listed,a,_,hk,_,hB,h=>by
  have:k=n:=by simpa using hk
  subst this
  exact⟨by simpa[Region.lexHead]using hB,h⟩
 |o::l,k,listed,a,hl,hk,inv,hB,h=>by
  have h0:ops[k]? =some o:=by simpa using(hl 0 (by simp)).symm
  simp only[List.length_cons,Region.lexHead,yl]at hB
  obtain⟨⟨hr,hf⟩,hB'⟩:=hB
  have hkn:k<n:=by simp only[List.length_cons]at hk;omega
  have hr' :k∈Region.ready md ops listed:=by simpa using hr
  have hst:qOp P ops C k (wpQuiet P ops C Lq l) a:=by unfold qOp;simp only[h0];exact h
  obtain⟨v,hy,hK⟩:=yieldsIn_of_qOp h0 hst
  exact zu9 h0 (Region.noSelect_spec hsel) hs hc hn hkn (fun listed' a' hL=>seqB_ready hL.1) l.length listed a inv (Region.free_spec h0 hf) hr' hy
   (qrl hsel hs hc hn l (k+1) _ _ (fun j hj=>by have:=hl (j+1) (by simp;omega);simpa[we,Nat.add_comm 1 j]using this) (by simp only[List.length_cons]at hk;omega) (inv.set hr' hkn) hB' hK)
theorem z0p{id:Nat}{Q:Exit→Act→World→Prop}{a:Act}{w:World}(n:Nat)(hm:P.follows .mixedOrders=true)(hB:Region.lexTailB .any ops n=true)(hC:C w.drew)
  (h:wpQuiet P ops C (fun a' =>∀w',C w' →wpList P ops Q (ops.toList.drop n) a' w') (ops.toList.take n) a):(Code.region id ops true).wp P Q a w:=by
 simp only[Region.lexTailB,yl,decide_eq_true_eq]at hB
 obtain⟨⟨⟨⟨hsel,hn⟩,hs⟩,hc⟩,hlex⟩:=hB
 have htl:(ops.toList.take n).length=n:=by simp;omega
 have hdl:(ops.toList.drop n).length=ops.size-n:=by simp
 have inv0:HeadInv .any ops n (Array.replicate ops.size false):=
  ⟨by simp,fun j oj _ hl=>(by rw[getD_replicate_false]at hl;cases hl),fun t _ ht=>getD_in (by simpa using ht) (getD_replicate_false _ _)⟩
 have H:=qrl (md:= .any) (g:=ops.size-n) hsel hs hc hn (ops.toList.take n) 0 _ a (fun j hj=>by
  have hj' :j<n:=by rw[htl]at hj;exact hj
  simp[hj']) (by simpa using htl) inv0 (by rw[htl];exact hlex) h
 refine wp_region_any hm ?_
 have:=qo5 (Q' :=Q) (g:=ops.size-n) (fun listed a' w' hw' hL=>by
  have:=wpAny_of_seq (md:= .any) (Q' :=Q) (ops.toList.drop n) n listed a' w' (fun j=>by simp[List.getElem?_drop]) (by rw[hdl];exact hL.1) (hL.2 w' hw')
  rwa [hdl]at this) _ _ _ _ hC H
 rw[htl,show n+(ops.size-n)=ops.size by omega]at this
 exact this
end
theorem z3k{P:Program}{c:Code}{Q:Exit→Act→World→Prop}{a:Act}{w:World}(I:Nat→Act→World→Prop){n:Nat}(h0:I n a w)
  (round:∀n a w,I n a w→c.wp P (Exit.then (fun a' w' =>∃m,m<n∧I m a' w') Q) a w):(Code.loop c).wp P Q a w:=by
 intro b k cs
 have key:∀n a w,I n a w→∃e a' w',Q e a' w' ∧Arrives P (lone (b.at a (.code c:: .inLoop c::k)) cs w) b k cs e a' w' :=by
  intro n
  induction n using Nat.strongRecOn with
  |_ n ih=>
   intro a w hI
   obtain⟨e,a₁,w₁,hq,harr⟩:=round n a w hI b (.inLoop c::k) cs
   cases e with
   |normal=>
    obtain⟨m,hm,hI1⟩:=hq
    obtain⟨e₂,a₂,w₂,hq₂,harr₂⟩:=ih m hm a₁ w₁ hI1
    exact⟨e₂,a₂,w₂,hq₂,.of_steps (Steps.trans harr (.one step_inLoop)) harr₂⟩
   |exit id=>exact⟨_,a₁,w₁,hq,.pass (x:= .inLoop c) rfl (fun _ _=> .inl (by simp)) harr⟩
   |goto l=>exact⟨_,a₁,w₁,hq,.pass (x:= .inLoop c) rfl (fun _ _=> .inl (by simp)) harr⟩
   |ret=>exact⟨_,a₁,w₁,hq,.pass (x:= .inLoop c) rfl (fun _ _=> .inl (by simp)) harr⟩
   |panic ch=>exact⟨_,a₁,w₁,hq,.pass (x:= .inLoop c) rfl (fun _ _=> .inl (by simp)) harr⟩
   |outgrown=>exact⟨_,a₁,w₁,hq,.pass (x:= .inLoop c) rfl (fun _ _=> .inl (by simp)) harr⟩
 obtain⟨e,a',w',hq,harr⟩:=key n a w h0
 exact⟨e,a',w',hq,.of_steps (.one step_loop) harr⟩
variable {ρ:Type}
def jb6:Op→Bool
 | .alloc _| .box _ _| .buildSlice _ _ _| .makeSlice _ _ _| .store _ _ _=>false
 | .call c=>match c.callee with
  | .builtin .append| .builtin .copy=>false
  |_=>true
 |_=>true
def zua:List Oper→Nat
 |[]=>0
 |o::l=>if jb6 o.op then zua l+1 else 0
def zgq(ops:Array Oper):List Oper→Nat→Option Nat
 |[],_=>none
 |o::l,i=>match o.op with
  | .call c=>match c.callee with
   | .value _=>if Region.lexTailB .any ops i=true then some i else zgq ops l (i+1)
   |_=>zgq ops l (i+1)
  |_=>zgq ops l (i+1)
def hdLen(ops:Array Oper):Nat:=
 match zgq ops ops.toList 0 with
 |some j=>if j<zua ops.toList then j else zua ops.toList
 |none=>zua ops.toList
def qi2(ops:Array Oper)(st:St)(o:Oper):Option Bool:=match o.guard with
 |none=>some true
 |some (j,want)=>match ops[j]? with
  |some oj=>match oj.dst with
   |some d=>match st.tmps.getD d .undef with
    | .bool (some b) _=>some (b==want)
    | .tup []=>some false
    |_=>none
   |none=>none
  |none=>none
def guardU(ops:Array Oper)(st:St)(o:Oper):Option (Nat×Bool):=match o.guard with
 |none=>none
 |some (j,_)=>match ops[j]? with
  |some oj=>match oj.dst with
   |some d=>match st.tmps.getD d .undef with
    | .bool none b=>some (d,b)
    |_=>none
   |none=>none
  |none=>none
def j94(ops:Array Oper)(st:St):List Nat→Option (Nat×Bool)
 |[]=>none
 |i::l=>match ops[i]? with
  |some o=>match guardU ops st o with
   |some x=>some x
   |none=>j94 ops st l
  |none=>j94 ops st l
theorem qwi{ops:Array Oper}{st:St}{o:Oper}{g:Bool}(h:qi2 ops st o=some g){M:List Place}{a:Act}(ht:RelT M st.tmps a.tmps):Region.wanted o (yielded ops a.tmps)=g:=by
 unfold qi2 at h
 split at h
 ·rename_i hg
  cases h
  simp[Region.wanted,hg]
 ·rename_i j want hg
  split at h
  ·rename_i oj hj
   split at h
   ·rename_i d hd
    have hv:=ht.2 d
    have hy:yielded ops a.tmps j=match a.tmps.getD d undef with| .bool b=>some b|_=>none:=by
     unfold yielded
     simp only[hj,hd,y5]
     rw[Array.getD_eq_getD_getElem?]
     cases a.tmps[d]? with
     |none=>rfl
     |some v=>cases v<;>rfl
    split at h
    ·rename_i b z hst
     cases h
     rw[hst]at hv
     obtain⟨e,hl⟩:=q25 hv
     have:=hl b rfl
     subst this
     rw[e]at hy
     simp[Region.wanted,hg,hy]
    ·rename_i hst
     cases h
     rw[hst]at hv
     simp only[RelV,RelX,RelL_nil]at hv
     obtain⟨vs,e,_⟩:=hv
     have e:a.tmps.getD d undef= .tuple vs:=by simpa using e
     rw[e]at hy
     simp[Region.wanted,hg,hy]
    ·cases h
   ·cases h
  ·cases h
theorem z86{ops:Array Oper}{st:St}{d:Nat}{b:Bool}:∀{l:List Nat},j94 ops st l=some (d,b)→st.tmps.getD d .undef= .bool none b
 |[],h=>by cases h
 |i::l,h=>by
  unfold j94 at h
  split at h
  ·rename_i o ho
   split at h
   ·rename_i x hx
    cases h
    unfold guardU at hx
    split at hx
    ·cases hx
    ·split at hx
     ·split at hx
      ·split at hx
       ·rename_i hst
        cases hx
        exact hst
       ·cases hx
      ·cases hx
     ·cases hx
   ·exact z86 h
  ·exact z86 h
def qtg(o:Oper):Bool:=match o.op with
 | .load _ _=>true
 |_=>false
def zoo(P:Program)(ops:Array Oper)(listed:Array Bool)(st:St):List Nat→Option (Nat×Oper×Bool×AV)
 |[]=>none
 |i::l=>match ops[i]? with
  |some o=>if Region.free .any ops listed i=true then match qi2 ops st o with
    |some true=>if qtg o=true then zoo P ops listed st l else if(ixOf st o.op).isSome=true then zoo P ops listed st l else match aq P st.heap st.get o.op with
     |some (req,x)=>some (i,o,req,x)
     |none=>zoo P ops listed st l
    |some false=>some (i,o,true,.tup [])
    |none=>zoo P ops listed st l
   else zoo P ops listed st l
  |none=>zoo P ops listed st l
def zhh(st:St):Op→Option Nat
 | .load _ p=>match st.get p with
  | .ptr b _ _ _ _=>some b
  | .rptr b _ _=>some b
  |_=>none
 |_=>none
def zub(P:Program)(ops:Array Oper)(listed:Array Bool)(st:St):List Nat→Option (Nat×Oper×Bool×AV×Nat)
 |[]=>none
 |i::l=>match ops[i]? with
  |some o=>if(qtg o&&Region.free .any ops listed i)=true then match qi2 ops st o with
    |some true=>match aq P st.heap st.get o.op with
     |some (req,x)=>match zhh st o.op with
      |some b=>some (i,o,req,x,b)
      |none=>zub P ops listed st l
     |none=>zub P ops listed st l
    |_=>zub P ops listed st l
   else zub P ops listed st l
  |none=>zub P ops listed st l
def pick(P:Program)(ops:Array Oper)(listed:Array Bool)(st:St)(l:List Nat):Option (Nat×Oper×Bool×AV×Option Nat):=
 match zoo P ops listed st l with
 |some (i,o,req,x)=>some (i,o,req,x,none)
 |none=>match l with
  |_::_::_=>match zub P ops listed st l with
   |some (i,o,req,x,b)=>some (i,o,req,x,some b)
   |none=>none
  |_=>none
def zcons(i:Nat)(b:Option Nat)(Z:List (Nat×Nat)):List (Nat×Nat):=match b with
 |some b=>(i,b)::Z
 |none=>Z
def jb7(ops:Array Oper)(i:Nat)(Z:List (Nat×Nat)):List Nat:=(Z.filter fun p=> !depB ops ops.size i p.1).map (·.2)
def jb8(P:Program)(cal:Cal ρ)(ops:Array Oper)(i:Nat)(o:Oper)(Z:List (Nat×Nat))(st:St)(K:St→Option ρ):Option ρ:=
 match jb7 ops i Z with
 |[]=>z81 ops o st (zbi P cal o) K
 |b::bs=>z81 ops o st (jb3 P cal o (b::bs)) K
def isM(ms:List (Nat×Tmp))(i:Nat):Bool:=ms.any fun p=>p.1==i
def j79(l:List Nat)(listed:Array Bool):Array Bool:=l.foldl (fun a i=>a.setIfInBounds i true) listed
def zuc(ops:Array Oper)(listed:Array Bool)(mk:List Nat)(j:Nat):Bool:=match mk with
 |[]=>true
 |_::_=>Region.ready .any ops (j79 mk listed)==[j]
def zop(P:Program)(cal:Cal ρ)(ops:Array Oper)(ms:List (Nat×Tmp)):Nat→List (Nat×Nat)→Array Bool→St→(St→Option ρ)→Option ρ
 |0,_,listed,st,K=>match Region.ready .any ops listed with
  |[]=>K (q33 listed ms st)
  |_::_=>none
 |n+1,Z,listed,st,K=>match Region.ready .any ops listed with
  |[]=>K (q33 listed ms st)
  |i0::rs=>match pick P ops listed (q33 listed ms st) (i0::rs)with
   |some (i,o,req,x,zb)=>cond req (zop P cal ops ms n (zcons i zb Z) (listed.setIfInBounds i true) ((q33 listed ms st).put o.dst x) K) none
   |none=>match(match rs with|[]=>none|_::_=>j94 ops (q33 listed ms st) (i0::rs))with
     |some (d,b)=>cond b
       (match pick P ops listed ((q33 listed ms st).put (some d) (.bool (some true) true)) (i0::rs)with
        |some (i,o,req,x,zb)=>cond req (zop P cal ops ms n (zcons i zb Z) (listed.setIfInBounds i true) (((q33 listed ms st).put (some d) (.bool (some true) true)).put o.dst x) K) none
        |none=>none)
       (match pick P ops listed ((q33 listed ms st).put (some d) (.bool (some false) false)) (i0::rs)with
        |some (i,o,req,x,zb)=>cond req (zop P cal ops ms n (zcons i zb Z) (listed.setIfInBounds i true) (((q33 listed ms st).put (some d) (.bool (some false) false)).put o.dst x) K) none
        |none=>none)
     |none=>match(i0::rs).filter fun i=> !isM ms i with
      |[j]=>if zuc ops listed ((i0::rs).filter (isM ms)) j=true then match ops[j]? with
        |some o=>jb8 P cal ops j o Z (q33 listed ms st) fun st' =>zop P cal ops ms n Z (listed.setIfInBounds j true) st' K
        |none=>none
       else none
      |[]=>if zuc ops listed rs i0=true then match ops[i0]? with
        |some o=>match mkr P o with
         |some (f,c)=>zop P cal ops ms n Z (listed.setIfInBounds i0 true) ⟨((q33 listed ms st).put o.dst (f st.heap.length)).tmps,st.heap++[some ⟨c,true,none⟩]⟩ K
         |none=>none
        |none=>none
       else none
      |_::_::_=>none
theorem z87{P:Program}{ops:Array Oper}{listed:Array Bool}{st:St}{i:Nat}{o:Oper}{req:Bool}{x:AV}:∀{l:List Nat},zoo P ops listed st l=some (i,o,req,x)→
  i∈l∧ops[i]? =some o∧Region.free .any ops listed i=true∧((qi2 ops st o=some true∧qtg o=false∧aq P st.heap st.get o.op=some (req,x))∨(qi2 ops st o=some false∧req=true∧x= .tup []))
 |[],h=>by cases h
 |j::l,h=>by
  unfold zoo at h
  have next:zoo P ops listed st l=some (i,o,req,x)→i∈j::l∧ops[i]? =some o∧Region.free .any ops listed i=true∧((qi2 ops st o=some true∧qtg o=false∧aq P st.heap st.get o.op=some (req,x))∨(qi2 ops st o=some false∧req=true∧x= .tup [])):=fun h=>
   let⟨h1,h2⟩:=z87 h
   ⟨List.mem_cons_of_mem _ h1,h2⟩
  split at h
  ·rename_i o' ho
   split at h
   ·rename_i hf
    split at h
    ·rename_i hg
     split at h
     ·exact next h
     ·rename_i hl
      split at h
      ·exact next h
      ·split at h
       ·rename_i req' x' hq
        cases h
        exact⟨List.mem_cons_self ..,ho,hf,.inl ⟨hg,by simpa using hl,hq⟩⟩
       ·exact next h
    ·rename_i hg
     cases h
     exact⟨List.mem_cons_self ..,ho,hf,.inr ⟨hg,rfl,rfl⟩⟩
    ·exact next h
   ·exact next h
  ·exact next h
theorem z88{P:Program}{ops:Array Oper}{listed:Array Bool}{st:St}{i:Nat}{o:Oper}{req:Bool}{x:AV}{b:Nat}:∀{l:List Nat},zub P ops listed st l=some (i,o,req,x,b)→
  i∈l∧ops[i]? =some o∧qtg o=true∧Region.free .any ops listed i=true∧qi2 ops st o=some true∧aq P st.heap st.get o.op=some (req,x)∧zhh st o.op=some b
 |[],h=>by cases h
 |j::l,h=>by
  unfold zub at h
  have next:zub P ops listed st l=some (i,o,req,x,b)→i∈j::l∧ops[i]? =some o∧qtg o=true∧Region.free .any ops listed i=true∧qi2 ops st o=some true∧aq P st.heap st.get o.op=some (req,x)∧zhh st o.op=some b:=fun h=>
   let⟨h1,h2⟩:=z88 h
   ⟨List.mem_cons_of_mem _ h1,h2⟩
  split at h
  ·rename_i o' ho
   split at h
   ·rename_i hp
    simp only[yl]at hp
    split at h
    ·rename_i hg
     split at h
     ·rename_i req' x' hq
      split at h
      ·rename_i b' hb
       cases h
       exact⟨List.mem_cons_self ..,ho,hp.1,hp.2,hg,hq,hb⟩
      ·exact next h
     ·exact next h
    ·exact next h
   ·exact next h
  ·exact next h
theorem jb9{P:Program}{M:List Place}{st:St}{B:Base}{w0:World}{a:Act}{w:World}(hr:Rel M st B w0 a w){ops:Array Oper}{o:Oper}{req:Bool}{x:AV}{b:Nat}(hl:qtg o=true)(hgd:qi2 ops st o=some true)
  (hq:aq P st.heap st.get o.op=some (req,x)) (hb:zhh st o.op=some b):∃pl v ob,M[b]? =some pl∧pl.nil=false∧RelV M x v∧w.heap[pl.blk]? =some ob∧YieldsIf P ops (fun w' =>w'.heap[pl.blk]? =some ob) o v a:=by
 have:∃t p,o.op= .load t p:=by
  unfold qtg at hl
  split at hl
  ·rename_i t p he;exact⟨t,p,he⟩
  ·cases hl
 obtain⟨t,p,hop⟩:=this
 have hg:RelV M (st.get p) (a.eval p):=qwc hr.tmps p
 rw[hop]at hq hb
 simp only[aq,yi,ym]at hq
 obtain⟨x',h1,_,rfl⟩:=hq
 obtain⟨A,u,e,hu,hrun⟩:=j6t hr.heap hg h1
 simp only[zhh]at hb
 have blk:∃pl,M[b]? =some pl∧pl.nil=false∧A.block=pl.blk:=by
  split at hb
  ·rename_i b' base dyn room span hst
   cases hb
   rw[hst]at hg
   simp only[RelV,RelX]at hg
   obtain⟨pl,hp,hn,hv,_⟩:=hg
   rw[e]at hv
   simp at hv
   exact⟨pl,hp,hn,by rw[hv]⟩
  ·rename_i b' off room hst
   cases hb
   rw[hst]at hg
   simp only[RelV,RelX]at hg
   obtain⟨pl,hp,hn,hv,_⟩:=hg
   rw[e]at hv
   simp at hv
   exact⟨pl,hp,hn,by rw[hv]⟩
  ·cases hb
 obtain⟨pl,hp,hn,hA⟩:=blk
 have hob:∃ob,w.heap[pl.blk]? =some ob:=by
  cases hw:w.heap[pl.blk]? with
  |some ob=>exact⟨ob,rfl⟩
  |none=>
   exfalso
   have hx:∃o',st.heap[b]? =some (some o'):=by
    unfold j8v at h1
    split at h1
    ·rename_i b' base dyn room span hst
     simp only[hst]at hb
     cases hb
     cases hc:objC st.heap b with
     |none=>simp[hc]at h1
     |some c=>
      obtain⟨o',pl',ho',_⟩:=z7t hr.heap hc
      exact⟨o',ho'⟩
    ·rename_i b' off room hst
     simp only[hst]at hb
     cases hb
     cases hc:objC st.heap b with
     |none=>simp[hc]at h1
     |some c=>
      obtain⟨o',pl',ho',_⟩:=z7t hr.heap hc
      exact⟨o',ho'⟩
    ·cases h1
   obtain⟨o',ho'⟩:=hx
   obtain⟨pl',hp',hok⟩:=hr.heap.obj b o' ho'
   rw[hp]at hp';cases hp'
   have:=qzv hok hn
   rw[Array.getElem?_eq_none_iff]at hw
   omega
 obtain⟨ob,hob⟩:=hob
 refine⟨pl,u,ob,hp,hn,hu,hob,.inl ⟨qwi hgd hr.tmps,fun w' hw' => ?_⟩⟩
 have hrun' :=hrun w' (fun ob' h' =>by rw[hA]at h' ⊢;rw[hw',←h',hob])
 simp[execOp,hop,e,Instr.loadAt,Instr.sureAddr,hrun']
theorem j95{P:Program}{M:List Place}{st:St}{B:Base}{w0:World}{a:Act}{w:World}(hr:Rel M st B w0 a w){ops:Array Oper}{listed:Array Bool}{l:List Nat}{i:Nat}{o:Oper}{x:AV}{zb:Option Nat}(h:pick P ops listed st l=some (i,o,true,x,zb)):
  i∈l∧ops[i]? =some o∧Region.free .any ops listed i=true∧∃v,RelV M x v∧
   ((zb=none∧YieldsIf P ops (fun _=>True) o v a)∨(∃b pl ob,zb=some b∧M[b]? =some pl∧pl.nil=false∧w.heap[pl.blk]? =some ob∧YieldsIf P ops (fun w' =>w'.heap[pl.blk]? =some ob) o v a)):=by
 unfold pick at h
 split at h
 ·rename_i i' o' req' x' hp
  cases h
  obtain⟨h1,h2,h3,h4⟩:=z87 hp
  refine⟨h1,h2,h3,?_⟩
  rcases h4 with⟨g1,g2,g3⟩|⟨g1,_,g3⟩
  ·have hnl:∀t b,o.op≠ .load t b:=by
    intro t b e
    simp[qtg,e]at g2
   obtain⟨v,hv,hrun⟩:=jb0 (fun x=>qwc hr.tmps x) hnl g3 rfl
   exact⟨v,hv,.inl ⟨rfl,.inl ⟨qwi g1 hr.tmps,fun w _=>hrun w⟩⟩⟩
  ·subst g3
   exact⟨undef,qp4 M,.inl ⟨rfl,.inr ⟨qwi g1 hr.tmps,rfl⟩⟩⟩
 ·split at h
  ·split at h
   ·rename_i i' o' req' x' b hp
    cases h
    obtain⟨h1,h2,h3,h4,h5,h6,h7⟩:=z88 hp
    obtain⟨pl,v,ob,g1,g2,g3,g4,g5⟩:=jb9 hr h3 h5 h6 h7
    exact⟨h1,h2,h4,v,g3,.inr ⟨b,pl,ob,rfl,g1,g2,g4,g5⟩⟩
   ·cases h
  ·cases h
theorem zbk{ops:Array Oper}{listed:Array Bool}{mk:List Nat}{j:Nat}(h:zuc ops listed mk j=true):mk=[]∨Region.ready .any ops (j79 mk listed)=[j]:=by
 cases mk with
 |nil=>exact .inl rfl
 |cons x xs=>exact .inr (by simpa[zuc]using h)
theorem j0h{P:Program}(hP:q0u P){cal:Cal ρ}(hcal:∀f,qex P f (cal f)){ops:Array Oper}{i:Nat}{o:Oper}(ho:ops[i]? =some o){Z:List (Nat×Nat)}{st:St}{K:St→Option ρ}{r:ρ}{M:List Place}{B:Base}{a:Act}{w:World}
  (h:jb8 P cal ops i o Z st K=some r) (hr:Rel M st B w a w) {Q:Exit→Act→World→Prop} {next:Act→World→Prop} (hn:∀M' st' a' w',Ext M M' →K st' =some r→Rel M' st' B w a' w' →(∃v,a' =a.put o.dst v)→
   (∀b∈jb7 ops i Z,∀pl,M[b]? =some pl→pl.nil=false→w'.heap[pl.blk]? =w.heap[pl.blk]?)→next a' w'):wpOp P ops Q i next a w:=by
 unfold wpOp
 rw[ho]
 unfold jb8 at h
 split at h
 ·rename_i hz
  rcases qdc h hr.tmps with⟨hw,st',h',ht,hh⟩|⟨hw,st',h',ht,hh⟩
  ·simp only[hw,if_true]
   have hr' :Rel M st' B w a w:=⟨ht,hr.defers,by rw[hh];exact hr.heap,Beneath.refl _ _⟩
   exact .inl (z80 hP hcal h' hr' fun M' st2 a' w' hE hk hr2 hact=>hn M' st2 a' w' hE hk hr2 hact (by rw[hz];simp))
  ·simp only[hw,yn,if_false]
   have hr' :Rel M st' B w a w:=⟨ht,hr.defers,by rw[hh];exact hr.heap,hr.below⟩
   exact hn M _ _ _ (Ext.refl M) h' (hr'.put (qp4 M) o.dst) ⟨_,rfl⟩ (by rw[hz];simp)
 ·rename_i b bs hz
  rcases qdc h hr.tmps with⟨hw,st',h',ht,hh⟩|⟨hw,st',h',ht,hh⟩
  ·simp only[hw,if_true]
   have hr' :Rel M st' B w a w:=⟨ht,hr.defers,by rw[hh];exact hr.heap,Beneath.refl _ _⟩
   exact .inl (j0f hP hcal h' hr' fun M' st2 a' w' hE hk hr2 hu hact=>hn M' st2 a' w' hE hk hr2 hact (by rw[hz];exact hu))
  ·simp only[hw,yn,if_false]
   have hr' :Rel M st' B w a w:=⟨ht,hr.defers,by rw[hh];exact hr.heap,hr.below⟩
   exact hn M _ _ _ (Ext.refl M) h' (hr'.put (qp4 M) o.dst) ⟨_,rfl⟩ (fun _ _ _ _ _=>rfl)
def ZRel(M:List Place)(Z:List (Nat×Nat))(Zc:List (Nat×Nat)):Prop:=∀p∈Zc,∃b pl,(p.1,b)∈Z∧M[b]? =some pl∧pl.nil=false∧pl.blk=p.2
theorem ZRel.mono{M M' :List Place}(h:Ext M M'){Z Zc:List (Nat×Nat)}(r:ZRel M Z Zc):ZRel M' Z Zc:=fun p hp=>by
 obtain⟨b,pl,h1,h2,h3⟩:=r p hp
 exact⟨b,pl,h1,h _ _ h2,h3⟩
theorem mkr_aq{P:Program}{o:Oper}{x:(Nat→AV)×Cont}(h:mkr P o=some x):o.guard=none∧qtg o=false∧∀H g,aq P H g o.op=none:=by
 unfold mkr at h
 split at h
 ·cases h
 ·rename_i hg
  split at h
  ·rename_i t hop
   exact⟨hg,by simp[qtg,hop],fun H g=>by rw[hop];rfl⟩
  ·rename_i t len parts hop
   exact⟨hg,by simp[qtg,hop],fun H g=>by rw[hop];rfl⟩
  ·cases h
def MsOk(P:Program)(ops:Array Oper)(ms:List (Nat×Tmp)):Prop:=∀m∈ms,∃o f c,ops[m.1]? =some o∧o.dst=some m.2∧mkr P o=some (f,c)
theorem jba(P:Program)(ops:Array Oper):MsOk P ops (mkrs P ops):=by
 intro m hm
 obtain⟨i,_,hi⟩:=List.mem_filterMap.1 hm
 split at hi
 ·rename_i o ho
  split at hi
  ·rename_i d hd
   split at hi
   ·rename_i hs
    cases hi
    obtain⟨⟨f,c⟩,hx⟩:=Option.isSome_iff_exists.1 hs
    exact⟨o,f,c,ho,hd,hx⟩
   ·cases hi
  ·cases hi
 ·cases hi
theorem jbb{ms:List (Nat×Tmp)}{i:Nat}(h:isM ms i=true):∃d,(i,d)∈ms:=by
 obtain⟨p,hp,he⟩:=List.any_eq_true.1 h
 simp only[beq_iff_eq]at he
 subst he
 exact⟨p.2,hp⟩
structure Ahead (P:Program) (ops:Array Oper) (ms:List (Nat×Tmp)) (B:Base) (listed:Array Bool) (E:List (Nat×Nat)) (a:Act) (w:World):Prop where
 each:∀p∈E,p.1∈Region.ready .any ops listed∧isM ms p.1=true∧(B.w p.2∧B.vis p.2∧¬B.f p.2)∧∃o d f c val cs el k,ops[p.1]? =some o∧o.dst=some d∧(p.1,d)∈ms∧mkr P o=some (f,c)∧Makes P o f c val cs el k∧
  w.heap[p.2]? =some (.cells cs el)∧a.put (some d) (val p.2)=a
 apart:∀p∈E,∀q∈E,(p.1=q.1∨p.2=q.2)→p=q
 nodup:E.Nodup
theorem zhi{ops:Array Oper}{ms:List (Nat×Tmp)}(h:j77 ops ms=true){i:Nat}{d:Tmp}(hm:(i,d)∈ms){j:Nat}{o:Oper}(hj:ops[j]? =some o)(hne:j≠i):o.dst≠some d:=by
 have h1:=List.all_eq_true.1 h (i,d) hm
 have h2:=List.all_eq_true.1 h1 j (List.mem_range.2 (Array.getElem?_eq_some_iff.1 hj).1)
 simp only[hj,Bool.or_eq_true,beq_iff_eq,hne,false_or,Bool.not_eq_true']at h2
 intro e
 rw[e]at h2
 simp at h2
theorem Ahead.put{P:Program}{ops:Array Oper}{ms:List (Nat×Tmp)}(hmo:j77 ops ms=true){B:Base}{listed:Array Bool}{E:List (Nat×Nat)}{a:Act}{w:World}(h:Ahead P ops ms B listed E a w){i:Nat}{o:Oper}(hi:ops[i]? =some o)(hr:i∈Region.ready .any ops listed)(hne:∀p∈E,p.1≠i)
  {w' :World} (hw:∀p∈E,w'.heap[p.2]? =w.heap[p.2]?) (v:Value):Ahead P ops ms B (listed.setIfInBounds i true) E (a.put o.dst v) w' :=by
 refine⟨fun p hp=> ?_,h.apart,h.nodup⟩
 obtain⟨h1,h2,h3,oo,d,f,c,val,cs,el,k,g1,g2,g3,g4,g5,g6,g7⟩:=h.each p hp
 refine⟨ready_mono h1 (hne p hp),h2,h3,oo,d,f,c,val,cs,el,k,g1,g2,g3,g4,g5,by rw[hw p hp];exact g6,?_⟩
 have hd:=zhi hmo g3 hi (Ne.symm (hne p hp))
 rw[Act.put_comm a (x:=o.dst) (y:=some d) v (val p.2) (fun e he he2=>hd (by rw[he,he2])),g7]
theorem jbc{E:List (Nat×Nat)}{listed:Array Bool}{j:Nat}(h:(lst E listed).getD j true=false):listed.getD j true=false:=by
 induction E generalizing listed with
 |nil=>exact h
 |cons p E ih=>
  have h1:=ih (listed:=listed.setIfInBounds p.1 true) h
  by_cases hj:p.1=j
  ·subst hj
   exfalso
   rcases Nat.lt_or_ge p.1 listed.size with h' |h'
   ·simp[h']at h1
   ·simp[Array.getElem?_eq_none (show(listed.setIfInBounds p.1 true).size≤p.1 by simpa using h')]at h1
  ·rwa [getD_set_ne true hj]at h1
theorem lst_not{E:List (Nat×Nat)}{listed:Array Bool}{j:Nat}(h:(lst E listed).getD j true=false):∀p∈E,p.1≠j:=by
 intro p hp e
 subst e
 rw[←j4r hp]at h
 rcases Nat.lt_or_ge p.1 (lst E listed).size with h' |h'
 ·simp[h']at h
 ·simp[Array.getElem?_eq_none (show((lst E listed).setIfInBounds p.1 true).size≤p.1 by simpa using h')]at h
theorem jbd{B:Base}{E E' :List (Nat×Nat)}(hE:∀p∈E',p∈E){M:List Place}{H:Heap}{w:World}(r:RelH M H (B.less E) w):RelH M H (B.less E') w:=
 r.rebase (B' :=B.less E') (fun k h=>⟨h.1,fun p hp=>h.2 p (hE p hp)⟩) (fun k h=>⟨h.1,fun p hp=>h.2 p (hE p hp)⟩) (fun k pl h=>h) (fun k ob _ h=>h.elim (fun h=> .inl ⟨h.1,fun p hp=>h.2 p (hE p hp)⟩) .inr) (fun k h=>h)
theorem less_nil{B:Base}{M:List Place}{H:Heap}{w:World}(r:RelH M H (B.less []) w):RelH M H B w:=
 r.rebase (fun k h=>h.1) (fun k h=>h.1) (fun k pl h=>h) (fun k ob _ h=>h.elim (fun h=> .inl h.1) .inr) (fun k h=>h)
theorem made{P:Program}{M:List Place}{st:St}{B:Base}{a:Act}{w:World}{o:Oper}{f:Nat→AV}{c:Cont}{val:Nat→Value}{cs:Array Value}{el:TypeId}{k:Nat}(hm:Makes P o f c val cs el k)(ht:RelT M st.tmps a.tmps)(hH:RelH M st.heap B w){g:Nat}
  (hg:w.heap[g]? =some (.cells cs el)) (hB:B.w g∧B.vis g) (hf:¬B.f g∧∀ob,¬FzAt M g ob) (hs:∀(i:Nat) (o:AObj) (pl:Place),st.heap[i]? =some (some o)→M[i]? =some pl→pl.nil=false→pl.blk≠g) {d:Tmp} (hd:o.dst=some d) (ha:a.put (some d) (val g)=a):
  ∃M',Ext M M' ∧RelT M' (st.put o.dst (f st.heap.length)).tmps a.tmps∧RelH M' (st.heap++[some ⟨c,true,none⟩]) B w:=by
 refine⟨M++[⟨false,g,0,k,cs.size,noFz⟩],Ext.snoc _ _,?_,?_⟩
 ·have h1:=(ht.mono (Ext.snoc M [⟨false,g,0,k,cs.size,noFz⟩])).put (hm.rel (M++[⟨false,g,0,k,cs.size,noFz⟩]) st.heap.length g (by rw[hH.len];simp)) d
  rw[hd]
  have e:a.tmps.setIfInBounds d (val g)=a.tmps:=congrArg Act.tmps ha
  rw[e]at h1
  exact h1
 ·refine hH.add (.inr ⟨rfl,cs,el,(0,0),hg,rfl,by simpa using hm.le,?_,fun _=>⟨rfl,rfl,hB.1⟩⟩) (fun k h=>by cases h) (fun _=>hB.2) (fun i oi pi hi hpi _ hn _=>hs i oi pi hi hpi hn) rfl (fun _ _=>hf)
  simp only[List.drop_zero]
  exact hm.cont M
theorem zhj{P:Program}(hP:q0u P){cal:Cal ρ}(hcal:∀f,qex P f (cal f)){ops:Array Oper}(hs:Region.noSelect ops=true){ms:List (Nat×Tmp)}(hms:MsOk P ops ms)(hmo:j77 ops ms=true){Q:Exit→Act→World→Prop}{K:St→Option ρ}{r:ρ}{B:Base}{w0:World}:
  ∀(n m:Nat) (Z Zc E:List (Nat×Nat)) (listed:Array Bool) (st:St) (M:List Place) (a:Act) (w:World),zop P cal ops ms n Z listed st K=some r→Closed ops listed→ZRel M Z Zc→(∀p∈Zc,p.2<w.heap.size)→Ahead P ops ms B listed E a w→
   RelT M (q33 listed ms st).tmps a.tmps→a.defers=B.ds→RelH M st.heap (B.less E) w→Beneath B w0 w→cntF (lst E listed)≤m→(∀M' st' a' w',Ext M M' →K st' =some r→Rel M' st' B w0 a' w' →Q .normal a' w')→
   qtf P ops (fun e a w=>e= .normal∧Q .normal a w) ops.size m Zc (lst E listed) a w:=by
 have stop:∀(m:Nat) (Zc E:List (Nat×Nat)) (listed:Array Bool) (st:St) (M:List Place) (a:Act) (w:World),Region.ready .any ops listed=[]→K (q33 listed ms st)=some r→Ahead P ops ms B listed E a w→
   RelT M (q33 listed ms st).tmps a.tmps→a.defers=B.ds→RelH M st.heap (B.less E) w→Beneath B w0 w→(∀M' st' a' w',Ext M M' →K st' =some r→Rel M' st' B w0 a' w' →Q .normal a' w')→
   qtf P ops (fun e a w=>e= .normal∧Q .normal a w) ops.size m Zc (lst E listed) a w:=by
  intro m Zc E listed st M a w hrd h hA ht hd hH hb hn
  have hE:E=[]:=by
   cases E with
   |nil=>rfl
   |cons p E=>have:=(hA.each p (List.mem_cons_self ..)).1;rw[hrd]at this;cases this
  subst hE
  exact j4q hrd ⟨rfl,hn M _ a w (Ext.refl M) h ⟨ht,hd,by rw[qcb];exact less_nil hH,hb⟩⟩ m
 intro n
 induction n with
 |zero=>
  intro m Z Zc E listed st M a w h hc hz hzlt hA ht hd hH hb hm hn
  unfold zop at h
  split at h
  ·rename_i hrd
   exact stop m Zc E listed st M a w hrd h hA ht hd hH hb hn
  ·cases h
 |succ n ihn=>
  intro m
  induction m using Nat.strongRecOn with
  |_ m ihm=>
  intro Z Zc E listed st M a w h hc hz hzlt hA ht hd hH hb hm hn
  have h0:=h
  have hcl:Closed ops (lst E listed):=j93 hc fun p hp=>(hA.each p hp).1
  have hR:Rel M (q33 listed ms st) (B.less E) w a w:=⟨ht,hd,by rw[qcb];exact hH,Beneath.refl _ _⟩
  have fuel:∀{j:Nat},(lst E listed).getD j true=false→∃m',m=m' +1∧cntF (lst E (listed.setIfInBounds j true))≤m' :=by
   intro j hj
   have:=j78 hj
   rw[z84]
   exact⟨m-1,by omega,by omega⟩
  have ahead:∀(st1:St),st1.heap=st.heap→RelT M st1.tmps a.tmps→∀{l:List Nat} {i:Nat} {o:Oper} {req:Bool} {x:AV} {zb:Option Nat},Region.ready .any ops listed=l→pick P ops listed st1 l=some (i,o,req,x,zb)→
    cond req (zop P cal ops ms n (zcons i zb Z) (listed.setIfInBounds i true) (st1.put o.dst x) K) none=some r→qtf P ops (fun e a w=>e= .normal∧Q .normal a w) ops.size m Zc (lst E listed) a w:=by
   intro st1 hh1 ht1 l i o req x zb hrd hp h
   have hr1:Rel M st1 (B.less E) w a w:=⟨ht1,hd,by rw[hh1];exact hH,Beneath.refl _ _⟩
   cases req with
   |false=>cases h
   |true=>
    obtain⟨h1,h2,h3,v,hv,h4⟩:=j95 hr1 hp
    have hrdy:i∈Region.ready .any ops listed:=by rw[hrd];exact h1
    have hnm:∀p∈E,p.1≠i:=by
     intro p hp' e
     obtain⟨_,_,_,oo,d,f,c,_,_,_,_,g1,_,_,g4,_⟩:=hA.each p hp'
     rw[e,h2]at g1
     cases g1
     obtain⟨q1,q2,q3⟩:=mkr_aq g4
     unfold pick at hp
     split at hp
     ·rename_i i' o' req' x' hpp
      cases hp
      obtain⟨_,_,_,s4⟩:=z87 hpp
      rcases s4 with⟨_,_,s⟩|⟨s,_⟩
      ·rw[q3]at s;cases s
      ·unfold qi2 at s;rw[q1]at s;cases s
     ·split at hp
      ·split at hp
       ·rename_i i' o' req' x' b hpp
        cases hp
        obtain⟨_,_,s3,_⟩:=z88 hpp
        rw[q2]at s3;cases s3
       ·cases hp
      ·cases hp
    have hrdy' :=zhg hrdy hnm
    obtain⟨m',rfl,hm'⟩:=fuel (mem_ready.1 hrdy').1
    have hfree:∀j oj,ops[j]? =some oj→j≠i→(lst E listed).getD j true=false→(∀e∈oj.after,Region.binds .any e=true→e.on≠i)→o.apart ops oj=true:=fun j oj hj hji hun hno=>Region.free_spec h2 h3 j oj hj hji (jbc hun) hno
    have hA' :=hA.put hmo h2 hrdy hnm (w' :=w) (fun _ _=>rfl) v
    have ht' :RelT M (q33 (listed.setIfInBounds i true) ms (st1.put o.dst x)).tmps (a.put o.dst v).tmps:=(hr1.put hv o.dst).tmps.clear _ _
    have hh' :(st1.put o.dst x).heap=st.heap:=by rw[←hh1];cases o.dst<;>rfl
    have hd' :(a.put o.dst v).defers=B.ds:=by rw[←hd];cases o.dst<;>rfl
    rcases h4 with⟨rfl,h4⟩|⟨b,pl,ob,rfl,g1,g2,g4,g5⟩
    ·refine zbj (G:=[]) (S:=fun _=>True) h2 (Region.noSelect_spec hs) (fun c a w hq=>nomatch hq.1) (fun _ _ _ _=>trivial) m' Zc (lst E listed) a w (by simp) hcl hfree hrdy' h4 trivial ?_
     rw[←z84]
     exact ihn m' Z Zc E _ _ M _ w h (hc.set hrdy) hz hzlt hA' ht' hd' (by rw[hh'];exact hH) hb hm' hn
    ·refine j4p (Z:=(i,pl.blk)::Zc) (fun p hp=>List.mem_cons_of_mem _ hp) ?_
     refine zbj (G:=[pl.blk]) (S:=fun w' =>w'.heap[pl.blk]? =some ob) h2 (Region.noSelect_spec hs) (fun c a w hq=>nomatch hq.1) (fun w1 w2 hg hS=>by rw[hg _ (by simp)];exact hS) m' _ (lst E listed) a w (by simp) hcl hfree hrdy' g5 g4 ?_
     rw[←z84]
     refine ihn m' ((i,b)::Z) ((i,pl.blk)::Zc) E _ _ M _ w h (hc.set hrdy) ?_ ?_ hA' ht' hd' (by rw[hh'];exact hH) hb hm' hn
     ·intro p hp
      rcases yr.1 hp with rfl|hp
      ·exact⟨b,pl,List.mem_cons_self ..,g1,g2,rfl⟩
      ·obtain⟨b',pl',z1,z2⟩:=hz p hp
       exact⟨b',pl',List.mem_cons_of_mem _ z1,z2⟩
     ·intro p hp
      rcases yr.1 hp with rfl|hp
      ·exact(Array.getElem?_eq_some_iff.1 g4).1
      ·exact hzlt p hp
  have early:∀{k:Nat},k∈Region.ready .any ops listed→isM ms k=true→k∈Region.ready .any ops (lst E listed)→∀{m' :Nat},m=m' +1→
    wpOp P ops (fun e a w=>e= .normal∧Q .normal a w) k (fun a' w' =>(∀p∈Zc,depB ops ops.size k p.1=false→w'.heap[p.2]? =w.heap[p.2]?)∧∃Z',(∀p∈Zc,p∈Z')∧qtf P ops (fun e a w=>e= .normal∧Q .normal a w) ops.size m' Z' ((lst E listed).setIfInBounds k true) a' w') a w:=by
   intro k hk hkm hk' m' hm1
   have hkE:=lst_not (mem_ready.1 hk').1
   obtain⟨d,hkd⟩:=jbb hkm
   obtain⟨o,f,c,ho,hdst,hmk⟩:=hms (k,d) hkd
   obtain⟨val,cs,el,kk,hM⟩:=j0g hmk
   have s1:(w.alloc (.cells cs el)).heap.size=w.heap.size+1:=by simp
   have g1:(w.alloc (.cells cs el)).heap[w.heap.size]? =some (.cells cs el):=by
    show(w.heap.push _)[w.heap.size]? =some _
    simp
   have hbel:=z3c w (.cells cs el)
   unfold wpOp
   rw[ho]
   have hw:Region.wanted o (yielded ops a.tmps)=true:=by simp[Region.wanted,hM.guard]
   simp only[hw,if_true]
   refine .inl ?_
   unfold Oper.wp
   rw[hM.run a w]
   refine⟨fun p hp _=>hbel.block _ (hzlt p hp),Zc,fun _ h=>h,?_⟩
   have e:(lst E listed).setIfInBounds k true=lst (E++[(k,w.heap.size)]) listed:=(lst_snoc E (k,w.heap.size) listed).symm
   rw[e]
   have hEsz:∀p∈E,p.2<w.heap.size:=fun p hp=>by
    obtain⟨_,_,_,_,_,_,_,_,_,_,_,_,_,_,_,_,g6,_⟩:=hA.each p hp
    exact(Array.getElem?_eq_some_iff.1 g6).1
   have hbase:=hH.base w.heap.size (wa _)
   refine ihm m' (by omega) Z Zc (E++[(k,w.heap.size)]) listed st M (a.put o.dst (val w.heap.size)) _ h0 hc hz (fun p hp=>by rw[s1];have:=hzlt p hp;omega) ?_ ?_ ?_ ?_ (hb.trans (Beneath.of hbel)) ?_ hn
   ·refine⟨fun p hp=> ?_,?_,?_⟩
    ·rcases yk.1 hp with hp|hp
     ·obtain⟨h1,h2,h3,oo,d',f',c',val',cs',el',k',q1,q2,q3,q4,q5,q6,q7⟩:=hA.each p hp
      refine⟨h1,h2,h3,oo,d',f',c',val',cs',el',k',q1,q2,q3,q4,q5,by rw[hbel.block _ (hEsz p hp)];exact q6,?_⟩
      have hdd:=zhi hmo q3 ho (Ne.symm (hkE p hp))
      rw[Act.put_comm a (x:=o.dst) (y:=some d') _ (val' p.2) (fun e he he2=>hdd (by rw[he,he2])),q7]
     ·simp only[yr,List.not_mem_nil,or_false]at hp
      subst hp
      refine⟨hk,hkm,⟨hbase.1.1,hbase.2.1,hH.bf _ (wa _)⟩,o,d,f,c,val,cs,el,kk,ho,hdst,hkd,hmk,hM,g1,?_⟩
      rw[hdst]
      simp only[Act.put]
      congr 1
      apply Array.ext
      ·simp
      ·intro t h1 h2
       by_cases ht2:d=t
       ·subst ht2;simp
       ·simp[Array.getElem_setIfInBounds_ne (h:=ht2)]
    ·intro p hp q hq hpq
     rcases yk.1 hp with hp|hp<;>rcases yk.1 hq with hq|hq
     ·exact hA.apart p hp q hq hpq
     ·simp only[yr,List.not_mem_nil,or_false]at hq
      subst hq
      rcases hpq with e|e
      ·exact absurd e (hkE p hp)
      ·have:=hEsz p hp;simp only at e;omega
     ·simp only[yr,List.not_mem_nil,or_false]at hp
      subst hp
      rcases hpq with e|e
      ·exact absurd e.symm (hkE q hq)
      ·have:=hEsz q hq;simp only at e;omega
     ·simp only[yr,List.not_mem_nil,or_false]at hp hq
      rw[hp,hq]
    ·rw[List.nodup_append]
     refine⟨hA.nodup,by simp,fun p hp q hq e=> ?_⟩
     simp only[yr,List.not_mem_nil,or_false]at hq
     subst e
     exact hkE p hp (by rw[hq])
   ·rw[hdst]
    exact ht.putAny (qwh listed ms st hkd (mem_ready.1 hk).1) _
   ·rw[←hd];cases o.dst<;>rfl
   ·have hH1:RelH M st.heap (B.less E) (w.alloc (.cells cs el)):=hH.below hbel
    have nofz:∀j ob,FzAt M j ob→∀p∈E++[(k,w.heap.size)],j≠p.2:=fun j ob hj p hp=>by
     rcases yk.1 hp with hp|hp
     ·exact(hH1.fz j ob hj).2.1.2 p hp
     ·simp only[yr,List.not_mem_nil,or_false]at hp
      rw[hp]
      exact Nat.ne_of_lt (hH.fz_lt hj)
    refine⟨hH1.len,fun j hj=> ?_,fun j oj hj=> ?_,hH1.sep,hH1.pin,fun j oj pl hj hpl hnl=> ?_,fun j ob hj=>⟨(hH1.fz j ob hj).1,⟨(hH1.fz j ob hj).2.1.1,nofz j ob hj⟩,(hH1.fz j ob hj).2.2.elim (fun h=> .inl ⟨h.1,nofz j ob hj⟩) .inr⟩,hH1.fo,hH1.bf⟩
    ·have:=hH1.base j hj
     rw[s1]at hj
     refine⟨⟨this.1.1,fun p hp=> ?_⟩,⟨this.2.1,fun p hp=> ?_⟩⟩
     all_goals
      rcases yk.1 hp with hp|hp
      ·have:=hEsz p hp;omega
      ·simp only[yr,List.not_mem_nil,or_false]at hp
       rw[hp]
       show j≠w.heap.size
       omega
    ·obtain⟨pl,hpl,hok⟩:=hH.obj j oj hj
     refine⟨pl,hpl,?_⟩
     rcases hok with hok|⟨q1,cs',el',fz,q2,q3,q4,q5,q6⟩
     ·exact .inl hok
     ·have hlt:=(Array.getElem?_eq_some_iff.1 q2).1
      refine .inr ⟨q1,cs',el',fz,by rw[hbel.block _ hlt];exact q2,q3,q4,q5,fun e=>⟨(q6 e).1,(q6 e).2.1,(q6 e).2.2.1,fun p hp=> ?_⟩⟩
      rcases yk.1 hp with hp|hp
      ·exact(q6 e).2.2.2 p hp
      ·simp only[yr,List.not_mem_nil,or_false]at hp
       rw[hp]
       show pl.blk≠w.heap.size
       omega
    ·have hv:=hH1.vis j oj pl hj hpl hnl
     obtain⟨pl',hpl',hok⟩:=hH.obj j oj hj
     rw[hpl]at hpl';cases hpl'
     have hlt:=qzv hok hnl
     refine⟨hv.1,fun p hp=> ?_⟩
     rcases yk.1 hp with hp|hp
     ·exact hv.2 p hp
     ·simp only[yr,List.not_mem_nil,or_false]at hp
      rw[hp]
      show pl.blk≠w.heap.size
      omega
   ·rw[←e]
    have:=j78 (mem_ready.1 hk').1
    omega
  unfold zop at h
  split at h
  ·rename_i hrd
   exact stop m Zc E listed st M a w hrd h hA ht hd hH hb hn
  ·rename_i i0 rs hrd
   have hEr:∀p∈E,p.1∈i0::rs:=fun p hp=>by rw[←hrd];exact(hA.each p hp).1
   split at h
   ·rename_i i o req x zb hp
    exact ahead _ (qcb ..) ht hrd hp h
   ·split at h
    ·rename_i d b hu
     have hu:j94 ops (q33 listed ms st) (i0::rs)=some (d,b):=by
      cases rs with
      |nil=>cases hu
      |cons _ _=>exact hu
     have hst:=z86 hu
     have hlit:RelT M ((q33 listed ms st).put (some d) (.bool (some b) b)).tmps a.tmps:=by
      have hv:=ht.2 d
      rw[hst]at hv
      obtain⟨e,_⟩:=q25 hv
      have h1:=hR.put (x:= .bool (some b) b) (v:= .bool b) (by simp[RelV,RelX]) (some d)
      rw[←e,qj3]at h1
      exact h1.tmps
     cases b with
     |true=>
      simp only[cT]at h
      split at h
      ·rename_i i o req x zb hp
       exact ahead ((q33 listed ms st).put (some d) (.bool (some true) true)) (qcb listed ms st) hlit hrd hp h
      ·cases h
     |false=>
      simp only[cF]at h
      split at h
      ·rename_i i o req x zb hp
       exact ahead ((q33 listed ms st).put (some d) (.bool (some false) false)) (qcb listed ms st) hlit hrd hp h
      ·cases h
    ·split at h
     ·rename_i j hj
      split at h
      case isFalse=>cases h
      rename_i hal
      split at h
      ·rename_i o ho
       have hjm:j∈(i0::rs).filter fun i=> !isM ms i:=by rw[hj];simp
       obtain⟨hjr,hjn⟩:=List.mem_filter.1 hjm
       have hjE:∀p∈E,p.1≠j:=fun p hp e=>by
        have:=(hA.each p hp).2.1
        rw[e]at this
        rw[this]at hjn
        cases hjn
       have hjr' :j∈Region.ready .any ops listed:=by rw[hrd];exact hjr
       have hjl:=zhg hjr' hjE
       obtain⟨m',hm1,hm'⟩:=fuel (mem_ready.1 hjl).1
       rw[hm1]
       refine⟨fun hemp=>(by rw[hemp]at hjl;cases hjl),fun k hk=> ?_⟩
       by_cases hkj:k=j
       ·subst hkj
        refine j0h hP hcal ho h hR fun M' st' a' w' hE hk2 hr' hact hu=>⟨fun p hp hdp=> ?_,Zc,fun _ h=>h,?_⟩
        ·obtain⟨b,pl,z1,z2,z3,z4⟩:=hz p hp
         rw[←z4]
         refine hu b ?_ pl z2 z3
         unfold jb7
         exact List.mem_map.2 ⟨(p.1,b),List.mem_filter.2 ⟨z1,by simp[hdp]⟩,rfl⟩
        ·obtain⟨v,rfl⟩:=hact
         rw[←z84]
         have hbl:∀p∈E,w'.heap[p.2]? =w.heap[p.2]? :=fun p hp=>by
          obtain⟨_,_,_,_,_,_,_,_,_,_,_,_,_,_,_,_,g6,_⟩:=hA.each p hp
          exact hr'.below.block _ (Array.getElem?_eq_some_iff.1 g6).1 fun h2=>h2.2 p hp rfl
         have hbw:Beneath B w w' :=⟨hr'.below.os,hr'.below.tape,hr'.below.output,hr'.below.size,fun q hq hnq=>hr'.below.block q hq fun h2=>hnq h2.1⟩
         exact ihn m' Z Zc E _ st' M' _ w' hk2 (hc.set hjr') (hz.mono hE) (fun p hp=>Nat.lt_of_lt_of_le (hzlt p hp) hr'.below.size) (hA.put hmo ho hjr' hjE hbl v) (hr'.tmps.clear _ _) hr'.defers hr'.heap (hb.trans hbw) hm'
          fun M2 st3 a3 w3 hE2=>hn M2 st3 a3 w3 (hE.trans hE2)
       ·
        have hmk:k∈(i0::rs).filter (isM ms):=by
         by_cases hin:k∈(i0::rs).filter (isM ms)
         ·exact hin
         ·exfalso
          have hEf:∀p∈E,p.1∈(i0::rs).filter (isM ms):=fun p hp=>List.mem_filter.2 ⟨hEr p hp,(hA.each p hp).2.1⟩
          have hmore:=zt0 hEf hk hin
          rcases zbk hal with hnil|h1
          ·rw[hnil]at hmore
           simp only[List.foldl_nil]at hmore
           rw[hrd]at hmore
           have:k∈(i0::rs).filter fun i=> !isM ms i:=by
            refine List.mem_filter.2 ⟨hmore,?_⟩
            cases hq:isM ms k
            ·rfl
            ·exact absurd (List.mem_filter.2 ⟨hmore,hq⟩) hin
           rw[hj]at this
           simp at this
           exact hkj this
          ·change k∈Region.ready .any ops (j79 _ listed)at hmore
           rw[h1]at hmore
           simp at hmore
           exact hkj hmore
        obtain⟨hkr,hkm⟩:=List.mem_filter.1 hmk
        exact early (by rw[hrd];exact hkr) hkm hk hm1
      ·cases h
     ·rename_i hnil
      split at h
      case isFalse=>cases h
      rename_i hal
      split at h
      ·rename_i o ho
       split at h
       ·rename_i f c hmk
        have hallM:∀k∈i0::rs,isM ms k=true:=by
         intro k hk
         cases hq:isM ms k
         ·have:k∈(i0::rs).filter fun i=> !isM ms i:=List.mem_filter.2 ⟨hk,by simp[hq]⟩
          rw[hnil]at this
          cases this
         ·rfl
        have hi0:i0∈Region.ready .any ops listed:=by rw[hrd];simp
        obtain⟨d,hi0d⟩:=jbb (hallM i0 (by simp))
        obtain⟨o',f',c',ho',hdst,hmk'⟩:=hms (i0,d) hi0d
        rw[ho]at ho';cases ho'
        rw[hmk]at hmk';cases hmk'
        have told:∀(E' :List (Nat×Nat)) (g:Nat) (val:Nat→Value) (cs:Array Value) (el:TypeId) (kk:Nat) (a1:Act) (w1:World) (m1:Nat),Makes P o f c val cs el kk→w1.heap[g]? =some (.cells cs el)→(B.less E').w g∧(B.less E').vis g→(¬B.f g∧∀ob,¬FzAt M g ob)→
          (∀(i:Nat) (o:AObj) (pl:Place),st.heap[i]? =some (some o)→M[i]? =some pl→pl.nil=false→pl.blk≠g)→a1.put (some d) (val g)=a1→RelT M (q33 listed ms st).tmps a1.tmps→a1.defers=B.ds→RelH M st.heap (B.less E') w1→Beneath B w0 w1→
          Ahead P ops ms B (listed.setIfInBounds i0 true) E' a1 w1→(∀p∈Zc,p.2<w1.heap.size)→cntF (lst E' (listed.setIfInBounds i0 true))≤m1→
          qtf P ops (fun e a w=>e= .normal∧Q .normal a w) ops.size m1 Zc (lst E' (listed.setIfInBounds i0 true)) a1 w1:=by
         intro E' g val cs el kk a1 w1 m1 hMk hg hBg hfg hsep ha1 ht1 hd1 hH1 hb1 hA1 hz1 hm1
         obtain⟨M',hE,hT,hHH⟩:=made (st:=⟨(q33 listed ms st).tmps,st.heap⟩) hMk ht1 hH1 hg hBg hfg hsep hdst ha1
         refine ihn m1 Z Zc E' _ _ M' a1 w1 h (hc.set hi0) (hz.mono hE) hz1 hA1 ?_ hd1 hHH hb1 hm1 fun M2 st3 a3 w3 hE2=>hn M2 st3 a3 w3 (hE.trans hE2)
         refine RelT.clear (st:=⟨_,_⟩) ?_ _ _
         have e1:((q33 listed ms st).put o.dst (f st.heap.length)).tmps=(St.put ⟨(q33 listed ms st).tmps,st.heap⟩ o.dst (f st.heap.length)).tmps:=by cases o.dst<;>rfl
         rw[e1]
         exact hT
        by_cases hin:∃p∈E,p.1=i0
        ·
         obtain⟨p,hp,hpe⟩:=hin
         obtain⟨_,_,hBp,oo,d',f',c',val,cs,el,kk,q1,q2,q3,q4,q5,q6,q7⟩:=hA.each p hp
         rw[hpe,ho]at q1;cases q1
         rw[hdst]at q2;cases q2
         rw[hmk]at q4;cases q4
         have hlst:lst E listed=lst (E.erase p) (listed.setIfInBounds i0 true):=by rw[←jb5 hp,hpe]
         have hsub:∀q∈E.erase p,q∈E:=fun q hq=>List.mem_of_mem_erase hq
         have hne2:∀q∈E.erase p,q≠p:=fun q hq e=>by
          subst e
          exact(List.Nodup.not_mem_erase hA.nodup) hq
         rw[hlst]
         refine told (E.erase p) p.2 val cs el kk a w m q5 q6 ⟨⟨hBp.1,fun q hq e=>hne2 q hq (hA.apart q (hsub q hq) p hp (.inr e.symm))⟩,⟨hBp.2.1,fun q hq e=>hne2 q hq (hA.apart q (hsub q hq) p hp (.inr e.symm))⟩⟩ ⟨hBp.2.2,fun ob h=>(hH.fz _ ob h).2.1.2 p hp rfl⟩
          (fun i o pl hi hpl hnl e=>(hH.vis i o pl hi hpl hnl).2 p hp e) q7 ht hd (jbd hsub hH) hb ?_ hzlt (by rw[←hlst];exact hm)
         refine⟨fun q hq=> ?_,fun q hq q' hq' =>hA.apart q (hsub q hq) q' (hsub q' hq'),hA.nodup.erase _⟩
         obtain⟨r1,r2⟩:=hA.each q (hsub q hq)
         refine⟨ready_mono r1 fun e=>hne2 q hq (hA.apart q (hsub q hq) p hp (.inl (e.trans hpe.symm))),r2⟩
        ·have hiE:∀p∈E,p.1≠i0:=fun p hp e=>hin ⟨p,hp,e⟩
         have hil:=zhg hi0 hiE
         obtain⟨m',hm1,hm'⟩:=fuel (mem_ready.1 hil).1
         rw[hm1]
         refine⟨fun hemp=>(by rw[hemp]at hil;cases hil),fun k hk=> ?_⟩
         by_cases hki:k=i0
         ·subst hki
          obtain⟨val,cs,el,kk,hMk⟩:=j0g hmk
          have s1:(w.alloc (.cells cs el)).heap.size=w.heap.size+1:=by simp
          have g1:(w.alloc (.cells cs el)).heap[w.heap.size]? =some (.cells cs el):=by
           show(w.heap.push _)[w.heap.size]? =some _
           simp
          have hbel:=z3c w (.cells cs el)
          unfold wpOp
          rw[ho]
          have hw:Region.wanted o (yielded ops a.tmps)=true:=by simp[Region.wanted,hMk.guard]
          simp only[hw,if_true]
          refine .inl ?_
          unfold Oper.wp
          rw[hMk.run a w]
          refine⟨fun p hp _=>hbel.block _ (hzlt p hp),Zc,fun _ h=>h,?_⟩
          rw[←z84]
          have hbase:=hH.base w.heap.size (wa _)
          refine told E w.heap.size val cs el kk _ _ m' hMk g1 hbase ⟨hH.bf _ (wa _),fun ob h=>absurd (hH.fz_lt h) (Nat.lt_irrefl _)⟩ (fun i oi pl hi hpl hnl=> ?_) ?_ ?_ ?_ (hH.below hbel) (hb.trans (Beneath.of hbel)) ?_ (fun p hp=>by rw[s1];have:=hzlt p hp;omega) hm'
          ·obtain⟨pl',hpl',hok⟩:=hH.obj i oi hi
           rw[hpl]at hpl';cases hpl'
           have:=qzv hok hnl
           omega
          ·rw[hdst]
           simp only[Act.put]
           congr 1
           apply Array.ext
           ·simp
           ·intro t h1 h2
            by_cases ht2:d=t
            ·subst ht2;simp
            ·simp[Array.getElem_setIfInBounds_ne (h:=ht2)]
          ·rw[hdst]
           exact ht.putAny (qwh listed ms st hi0d (mem_ready.1 hi0).1) _
          ·rw[←hd];cases o.dst<;>rfl
          ·refine hA.put hmo ho hi0 hiE (fun p hp=> ?_) _
           obtain⟨_,_,_,_,_,_,_,_,_,_,_,_,_,_,_,_,g6,_⟩:=hA.each p hp
           exact hbel.block _ (Array.getElem?_eq_some_iff.1 g6).1
         ·have hkr:k∈rs:=by
           by_cases hin2:k∈rs
           ·exact hin2
           ·exfalso
            have hEf:∀p∈E,p.1∈rs:=fun p hp=>by
             rcases yr.1 (hEr p hp)with e|e
             ·exact absurd e (hiE p hp)
             ·exact e
            have hmore:=zt0 hEf hk hin2
            rcases zbk hal with hnil2|h1
            ·rw[hnil2]at hmore
             simp only[List.foldl_nil]at hmore
             rw[hrd,hnil2]at hmore
             simp at hmore
             exact hki hmore
            ·change k∈Region.ready .any ops (j79 _ listed)at hmore
             rw[h1]at hmore
             simp at hmore
             exact hki hmore
          exact early (by rw[hrd];exact List.mem_cons_of_mem _ hkr) (hallM k (List.mem_cons_of_mem _ hkr)) hk hm1
       ·cases h
      ·cases h
     ·cases h
theorem zhk(ops:Array Oper)(n:Nat):Closed ops (Array.replicate n false):=fun j o _ hj=>by
 exfalso
 rcases Nat.lt_or_ge j n with h|h
 ·simp[h]at hj
 ·simp[Array.getElem?_eq_none (show(Array.replicate n false).size≤j by simpa using h)]at hj
def zhl(P:Program)(cal:Cal ρ)(ops:Array Oper)(st:St)(K:St→Option ρ):Option ρ:=
 if(Region.noSelect ops&&j77 ops (mkrs P ops))=true then zop P cal ops (mkrs P ops) ops.size [] (Array.replicate ops.size false) st K else none
def jbe(P:Program)(o:Oper):Bool:=match o.op with
 | .call c=>match c.callee with
  | .value (.tmp _)=>true
  | .value _=>c.argTypes.any fun t=>match P.underlying t with
   |some (.pointer _)=>true
   |_=>false
  |_=>false
 |_=>false
def feeds(P:Program)(ops:Array Oper)(o:Oper):Bool:=match o.op,o.dst with
 | .call c,some d=>
  (match c.callee with
   | .value (.func f)=>(match P.funcs[f]? with
    |some fn=>fn.resultTypes.any fun t=>match P.underlying t with
     |some (.slice _)=>true
     |_=>false
    |none=>false)
   |_=>false)&&
  ops.any fun o' =>match o'.op with
   | .call c' =>c'.args.any fun x=>match x with
    | .tmp t=>t==d
    |_=>false
   |_=>false
 |_,_=>false
def risky(P:Program)(ops:Array Oper):Bool:=ops.any (jbe P)||ops.any (feeds P ops)
def slicey(P:Program)(ops:Array Oper):Bool:=ops.any fun o=>match o.op with
 | .call c=>(match c.callee with
   | .value (.func f)=>(match P.funcs[f]? with
    |some fn=>fn.resultTypes.any fun t=>match P.underlying t with
     |some (.slice _)=>true
     |_=>false
    |none=>false)
   |_=>false)
 |_=>false
def qzx(P:Program)(cal:Cal ρ)(qcal:QCal ρ)(ops:Array Oper)(draw:Bool)(st:St)(K:St→Option ρ):Option ρ:=
 match draw with
 |false=>j76 P cal ops ops.toList st K
 |true=>if P.follows .mixedOrders=true then
   if risky P ops=true then zhl P cal ops st K
   else if hdLen ops=ops.size then(if(Region.lexB .any ops&& !slicey P ops)=true then zhe P qcal ops ops.toList st K else zhl P cal ops st K)
   else if Region.lexTailB .any ops (hdLen ops)=true then
    zhe P qcal ops (ops.toList.take (hdLen ops)) st fun st' =>j76 P cal ops (ops.toList.drop (hdLen ops)) st' K
   else zhl P cal ops st K
  else none
theorem z1e{P:Program}(hP:q0u P){cal:Cal ρ}(hcal:∀f,qex P f (cal f)){qcal:QCal ρ}(hq:∀f,qb3 P f (qcal f)){ops:Array Oper}{draw:Bool}{id:Nat}{st:St}{K:St→Option ρ}{r:ρ}(h:qzx P cal qcal ops draw st K=some r)
  {M:List Place} {B:Base} {w0:World} {a:Act} {w:World} (hr:Rel M st B w0 a w) {Q:Exit→Act→World→Prop} (hn:∀M' st' a' w',Ext M M' →K st' =some r→Rel M' st' B w0 a' w' →Q .normal a' w'):(Code.region id ops draw).wp P Q a w:=by
 unfold qzx at h
 split at h
 ·exact wp_region_list (qcl hP hcal h hr hn)
 ·split at h
  ·rename_i hm
   have hb0:Below w.heap.size w w.drew:=(Below.refl _ _).drew
   have hH0:RelH M st.heap B w.drew:=hr.heap.below hb0
   have later:∀(st' :St) (a' :Act) (w' :World),RelT M st'.tmps a'.tmps→st'.heap=st.heap→a'.defers=B.ds→Below w.drew.heap.size w.drew w' →Rel M st' B w0 a' w' :=by
    intro st' a' w' ht hh hd hb
    exact⟨ht,hd,by rw[hh];exact hH0.below hb,hr.below.trans ((Beneath.of hb0).trans (Beneath.of hb))⟩
   have anyR:zhl P cal ops st K=some r→(Code.region id ops true).wp P Q a w:=by
    intro h
    unfold zhl at h
    split at h
    ·rename_i hs
     refine Code.wp_mono (Q:=fun e a w=>e= .normal∧Q .normal a w) (fun e a w ⟨e1,e2⟩=>by subst e1;exact e2) (wp_region_any hm ?_)
     have hs' :=Bool.and_eq_true_iff.1 hs
     have hr0:=later st a w.drew hr.tmps rfl hr.defers (Below.refl _ _)
     have hcnt:cntF (lst [] (Array.replicate ops.size false))≤ops.size:=by simp[lst,cntF]
     exact z82 _ _ _ _ _ (zhj hP hcal hs'.1 (jba P ops) hs'.2 ops.size ops.size [] [] [] _ st M a w.drew h (zhk ops _) (fun p hp=>by cases hp) (fun p hp=>by cases hp)
      ⟨fun p hp=>(by cases hp),fun p hp=>(by cases hp),List.nodup_nil⟩ (hr0.tmps.clear _ _) hr0.defers (hr0.heap.rebase (B' :=B.less []) (fun k h=>⟨h,fun p hp=>by cases hp⟩) (fun k h=>⟨h,fun p hp=>by cases hp⟩) (fun k pl h=>h) (fun k ob _ h=>h.elim (fun h=> .inl ⟨h,fun p hp=>by cases hp⟩) .inr) (fun k h=>h)) hr0.below hcnt hn)
    ·cases h
   split at h
   ·exact anyR h
   split at h
   ·split at h
    ·rename_i hB
     have hB:=(Bool.and_eq_true_iff.1 hB).1
     refine wp_region_quiet (C:=fun w' =>Below w.drew.heap.size w.drew w') hm hB (Below.refl _ _) ?_
     exact q7i hP hq hH0 h hr.tmps rfl hr.defers fun st' a' hk ht hh hd w' hb=>hn M st' a' w' (Ext.refl M) hk (later st' a' w' ht hh hd hb)
    ·exact anyR h
   ·split at h
    ·rename_i hB
     refine z0p (C:=fun w' =>Below w.drew.heap.size w.drew w') _ hm hB (Below.refl _ _) ?_
     exact q7i hP hq hH0 h hr.tmps rfl hr.defers fun st' a' hk ht hh hd w' hb=>qcl hP hcal hk (later st' a' w' ht hh hd hb) hn
    ·exact anyR h
  ·cases h
abbrev Ann(ρ:Type):=St→(Exit→St→Option ρ)→Option ρ
def ExtO(x:Bool)(M M' :List Place):Prop:=x=true→Ext M M'
theorem ExtO.of{x:Bool}{M M' :List Place}(h:Ext M M'):ExtO x M M' :=fun _=>h
theorem ExtO.trans{x:Bool}{A B C:List Place}(h:ExtO x A B)(k:ExtO x B C):ExtO x A C:=fun e=>(h e).trans (k e)
def z89(P:Program)(x:Bool)(B:Base)(w0:World)(c:Code)(an:Ann ρ):Prop:=
 ∀(st:St) (K:Exit→St→Option ρ) (r:ρ),an st K=some r→∀(M:List Place) (a:Act) (w:World) (Q:Exit→Act→World→Prop),Rel M st B w0 a w→
  (∀e M' st' a' w',ExtO x M M' →K e st' =some r→Rel M' st' B w0 a' w' →Q e a' w')→c.wp P Q a w
def St.lit(st:St)(c:Operand)(b:Bool):St:=
 match c with
 | .tmp t=>{st with tmps:=st.tmps.set t (.bool (some b) b)}
 |_=>st
def zud:Nat→(St→(Exit→St→Option ρ)→Option ρ)→St→(Exit→St→Option ρ)→Option ρ
 |0,_,_,_=>none
 |n+1,f,st,K=>f st fun e st' =>match e with
  | .normal=>zud n f st' K
  |e=>K e st'
def q2t(P:Program)(cal:Cal ρ)(qcal:QCal ρ)(ann:Nat→Option (Ann ρ)):Code→St→(Exit→St→Option ρ)→Option ρ
 | .skip,st,K=>K .normal st
 | .region _ ops draw,st,K=>qzx P cal qcal ops draw st (K .normal)
 | .seq x y,st,K=>q2t P cal qcal ann x st fun e st' =>match e with
  | .normal=>q2t P cal qcal ann y st' K
  |e=>K e st'
 | .cond c x y,st,K=>match st.get c with
  | .bool (some b) _=>cond b (q2t P cal qcal ann x st K) (q2t P cal qcal ann y st K)
  | .bool none b=>cond b (q2t P cal qcal ann x (st.lit c true) K) (q2t P cal qcal ann y (st.lit c false) K)
  |_=>none
 | .block id c,st,K=>match ann id with
  |some an=>an st K
  |none=>q2t P cal qcal ann c st fun e st' =>match e with
   | .exit id' =>if id' =id then K .normal st' else K (.exit id') st'
   |e=>K e st'
 | .loop c,st,K=>zud 300 (fun st K=>q2t P cal qcal ann c st K) st K
 | .exit id,st,K=>K (.exit id) st
 | .ret,st,K=>K .ret st
 | .label _,st,K=>K .normal st
 | .scope c,st,K=>q2t P cal qcal ann c st fun e st' =>match e with
  | .goto _=>none
  |e=>K e st'
 |_,_,_=>none
def q97:Code→List (Nat×Code)
 | .seq x y=>q97 x++q97 y
 | .cond _ x y=>q97 x++q97 y
 | .block id c=>(id,c)::q97 c
 | .loop c=>q97 c
 | .scope c=>q97 c
 |_=>[]
theorem qcm{P:Program}(hP:q0u P){cal:Cal ρ}(hcal:∀f,qex P f (cal f)){qcal:QCal ρ}(hq:∀f,qb3 P f (qcal f)){ann:Nat→Option (Ann ρ)}{x:Bool}{B:Base}{w0:World}{r:ρ}:
  ∀(c:Code) (_:∀id an c',ann id=some an→(id,c')∈q97 c→z89 P x B w0 (.block id c') an) (st:St) (K:Exit→St→Option ρ),q2t P cal qcal ann c st K=some r→
   ∀(M:List Place) (a:Act) (w:World) (Q:Exit→Act→World→Prop),Rel M st B w0 a w→(∀e M' st' a' w',ExtO x M M' →K e st' =some r→Rel M' st' B w0 a' w' →Q e a' w')→c.wp P Q a w:=by
 intro c
 induction c with
 |skip=>intro _ st K h M a w Q hr hn;exact wp_skip (hn _ M st a w (ExtO.of (Ext.refl M)) h hr)
 |region id ops draw=>intro _ st K h M a w Q hr hn;exact z1e hP hcal hq h hr fun M' st' a' w' hE=>hn .normal M' st' a' w' (ExtO.of hE)
 |seq x y ihx ihy=>
  intro ha st K h M a w Q hr hn
  refine wp_seq (ihx (fun id an c' h1 h2=>ha id an c' h1 (by simp[q97,h2])) st _ h M a w _ hr fun e M' st' a' w' hE hk hr' => ?_)
  cases e with
  |normal=>exact ihy (fun id an c' h1 h2=>ha id an c' h1 (by simp[q97,h2])) st' K hk M' a' w' Q hr' fun e M2 st2 a2 w2 hE2=>hn e M2 st2 a2 w2 (hE.trans hE2)
  |exit id=>exact hn _ M' st' a' w' hE hk hr'
  |goto l=>exact hn _ M' st' a' w' hE hk hr'
  |ret=>exact hn _ M' st' a' w' hE hk hr'
  |panic ch=>exact hn _ M' st' a' w' hE hk hr'
  |outgrown=>exact hn _ M' st' a' w' hE hk hr'
 |cond c x y ihx ihy=>
  intro ha st K h M a w Q hr hn
  have hg:=qwc hr.tmps c
  unfold q2t at h
  have lit:∀b:Bool,a.eval c= .bool b→Rel M (st.lit c b) B w0 a w:=by
   intro b hb
   cases c with
   |tmp t=>
    have h1:=hr.put (x:= .bool (some b) b) (v:= .bool b) (by simp[RelV,RelX]) (some t)
    simp only[Act.eval]at hb
    rw[←hb,qj3]at h1
    exact h1
   |_=>exact hr
  split at h
  ·rename_i b z hst
   rw[hst]at hg
   obtain⟨e,hl⟩:=q25 hg
   have:=hl b rfl
   subst this
   cases z
   ·exact wp_cond_false e (ihy (fun id an c' h1 h2=>ha id an c' h1 (by simp[q97,h2])) st K h M a w Q hr hn)
   ·exact wp_cond_true e (ihx (fun id an c' h1 h2=>ha id an c' h1 (by simp[q97,h2])) st K h M a w Q hr hn)
  ·rename_i b hst
   rw[hst]at hg
   obtain⟨e,_⟩:=q25 hg
   cases b
   ·exact wp_cond_false e (ihy (fun id an c' h1 h2=>ha id an c' h1 (by simp[q97,h2])) _ K h M a w Q (lit _ e) hn)
   ·exact wp_cond_true e (ihx (fun id an c' h1 h2=>ha id an c' h1 (by simp[q97,h2])) _ K h M a w Q (lit _ e) hn)
  ·cases h
 |block id c ih=>
  intro ha st K h M a w Q hr hn
  unfold q2t at h
  split at h
  ·rename_i an han
   exact ha id an c han (by simp[q97]) st K r h M a w Q hr hn
  ·refine wp_block (ih (fun id' an c' h1 h2=>ha id' an c' h1 (by simp[q97,h2])) st _ h M a w _ hr fun e M' st' a' w' hE hk hr' => ?_)
   cases e with
   |exit id' =>
    simp only at hk
    unfold Exit.inBlock
    split at hk
    ·rename_i hid
     simp only[hid,if_true]
     exact hn _ M' st' a' w' hE hk hr'
    ·rename_i hid
     simp only[hid,if_false]
     exact hn _ M' st' a' w' hE hk hr'
   |normal=>exact hn _ M' st' a' w' hE hk hr'
   |goto l=>exact hn _ M' st' a' w' hE hk hr'
   |ret=>exact hn _ M' st' a' w' hE hk hr'
   |panic ch=>exact hn _ M' st' a' w' hE hk hr'
   |outgrown=>exact hn _ M' st' a' w' hE hk hr'
 |loop c ih=>
  intro ha st K h M a w Q hr hn
  unfold q2t at h
  refine z3k (fun n a' w' =>∃st' M',zud n (fun st K=>q2t P cal qcal ann c st K) st' K=some r∧ExtO x M M' ∧Rel M' st' B w0 a' w') (n:=300) ⟨st,M,h,ExtO.of (Ext.refl M),hr⟩ ?_
  rintro n a1 w1 ⟨st1,M1,h1,hE1,hr1⟩
  cases n with
  |zero=>cases h1
  |succ n=>
   unfold zud at h1
   refine ih (fun id an c' h1 h2=>ha id an c' h1 (by simp[q97,h2])) st1 _ h1 M1 a1 w1 _ hr1 fun e M' st' a' w' hE hk hr' => ?_
   cases e with
   |normal=>exact⟨n,by omega,st',M',hk,hE1.trans hE,hr'⟩
   |exit id=>exact hn _ M' st' a' w' (hE1.trans hE) hk hr'
   |goto l=>exact hn _ M' st' a' w' (hE1.trans hE) hk hr'
   |ret=>exact hn _ M' st' a' w' (hE1.trans hE) hk hr'
   |panic ch=>exact hn _ M' st' a' w' (hE1.trans hE) hk hr'
   |outgrown=>exact hn _ M' st' a' w' (hE1.trans hE) hk hr'
 |exit id=>intro _ st K h M a w Q hr hn;exact wp_exit (hn _ M st a w (ExtO.of (Ext.refl M)) h hr)
 |ret=>intro _ st K h M a w Q hr hn;exact wp_ret (hn _ M st a w (ExtO.of (Ext.refl M)) h hr)
 |label l=>intro _ st K h M a w Q hr hn;exact wp_label (hn _ M st a w (ExtO.of (Ext.refl M)) h hr)
 |scope c ih=>
  intro ha st K h M a w Q hr hn
  unfold q2t at h
  refine wp_scope_straight (ih (fun id' an c' h1 h2=>ha id' an c' h1 (by simp[q97,h2])) st _ h M a w _ hr fun e M' st' a' w' hE hk hr' => ?_)
  cases e with
  |goto l=>cases hk
  |exit id=>exact hn _ M' st' a' w' hE hk hr'
  |normal=>exact hn _ M' st' a' w' hE hk hr'
  |ret=>exact hn _ M' st' a' w' hE hk hr'
  |panic ch=>exact hn _ M' st' a' w' hE hk hr'
  |outgrown=>exact hn _ M' st' a' w' hE hk hr'
 |_=>intro _ st K h;cases h
end Go.AE
namespace Go.AE
open Go Go.RowKit
inductive CTy where
 |int (k:IntKind)
 |bool
 |is (k:IntKind) (n:Nat)
 |str
 |fsl (k:IntKind) (sz:Nat)
 |dsl (e:EK)
 deriving DecidableEq
@[reducible] def CTy.den:CTy→Type
 | .int _=>Int
 | .bool=>Bool
 | .is _ _=>LI
 | .str=>LI
 | .fsl _ _=>LI
 | .dsl e=>List e.den
@[reducible] def DC:List CTy→Type
 |[]=>Unit
 |t::ts=>t.den×DC ts
inductive Ty where
 |int (k:IntKind)
 |bool
 |is (k:IntKind) (n:Nat)
 |row (k:IntKind)
 |agg (cs:List CTy)
 |str
 |fsl (k:IntKind) (sz:Nat)
 |dsl (e:EK)
 |drow (e:EK)
 |mapc (i:Nat)
 deriving DecidableEq
@[reducible] def Ty.den:Ty→Type
 | .int _=>Int
 | .bool=>Bool
 | .is _ _=>LI
 | .row _=>LI
 | .agg cs=>DC cs
 | .str=>LI
 | .fsl _ _=>LI
 | .dsl e=>List e.den
 | .drow e=>List e.den
 | .mapc _=>Unit
@[reducible] def D:List Ty→Type
 |[]=>Unit
 |t::ts=>t.den×D ts
def mk1:(t:CTy)→t.den→AV
 | .int k,x=> .int k none x
 | .bool,x=> .bool none x
 | .is k n,l=> .is k n l
 | .str,l=> .str l
 | .fsl k sz,l=> .fsl k sz l
 | .dsl e,l=> .dsl ⟨e,l⟩
def mkCs:(cs:List CTy)→DC cs→List AV
 |[],_=>[]
 |t::r,d=>mk1 t d.1::mkCs r d.2
def mkT:(t:Ty)→t.den→AV
 | .int k,x=> .int k none x
 | .bool,x=> .bool none x
 | .is k n,l=> .agg [.is k n l]
 | .row _,_=> .undef
 | .agg cs,d=> .agg (mkCs cs d)
 | .str,l=> .str l
 | .fsl k sz,l=> .fsl k sz l
 | .dsl e,l=> .dsl ⟨e,l⟩
 | .drow _,_=> .undef
 | .mapc i,_=> .mapc i
def mkC:(t:Ty)→t.den→AV
 | .int k,x=> .int k none x
 | .bool,x=> .bool none x
 | .is k n,l=> .is k n l
 | .row _,_=> .undef
 | .agg _,_=> .undef
 | .str,l=> .str l
 | .fsl k sz,l=> .fsl k sz l
 | .dsl e,l=> .dsl ⟨e,l⟩
 | .drow _,_=> .undef
 | .mapc _,_=> .undef
def qwj:List CTy→Bool
 |[]=>false
 | .fsl _ _::_=>true
 | .dsl _::_=>true
 |_::r=>qwj r
def Ty.deep:Ty→Bool
 | .fsl _ _| .dsl _| .drow _| .mapc _=>true
 | .agg cs=>qwj cs
 |_=>false
def zt1:AV→Option LI
 | .str l=>some l
 |_=>none
def zhm(k:IntKind)(sz:Nat):AV→Option LI
 | .fsl k' sz' l=>if k' =k∧sz' =sz then some l else none
 | .nils=>some []
 |_=>none
def zhn(e:EK):AV→Option (List e.den)
 | .dsl d=>if h:d.e=e then some (h▸d.l)else none
 | .nils=>some []
 |_=>none
theorem z8a{M M' :List Place}{a:AV}{l:LI}{vs:List Value}(h:zt1 a=some l)(r:RelX M a vs):RelX M' (.str l) vs:=by
 cases a<;>simp only[zt1,reduceCtorEq,yf]at h
 subst h
 simpa only[RelX]using r
theorem qzy{M M' :List Place}(hz:FzSub M M'){k:IntKind}{sz:Nat}{a:AV}{l:LI}{vs:List Value}(h:zhm k sz a=some l)(r:RelX M a vs):RelX M' (.fsl k sz l) vs:=by
 cases a<;>simp only[zhm,reduceCtorEq,yf]at h
 ·subst h
  simp only[RelX]at r⊢
  subst r
  exact⟨_,rfl,none,0,0,rfl,wa _,by simp,by rw[has_iff];simp[loB,hiB],by simp,.inl rfl⟩
 ·split at h
  ·rename_i hk
   obtain⟨rfl,rfl⟩:=hk
   cases h
   simp only[RelX]at r⊢
   obtain⟨v,e,r⟩:=r
   exact⟨v,e,r.mono hz⟩
  ·cases h
theorem qzz{M M' :List Place}(hz:FzSub M M'){e:EK}{a:AV}{l:List e.den}{vs:List Value}(h:zhn e a=some l)(r:RelX M a vs):RelX M' (.dsl ⟨e,l⟩) vs:=by
 cases a<;>simp only[zhn,reduceCtorEq,yf]at h
 ·subst h
  simp only[RelX]at r⊢
  subst r
  exact⟨_,rfl,none,0,0,rfl,wa _,rfl,by rw[has_iff];simp[loB,hiB],.inl rfl⟩
 ·rename_i d
  split at h
  ·rename_i he
   subst he
   cases h
   simp only[RelX]at r⊢
   obtain⟨v,e,r⟩:=r
   exact⟨v,e,r.mono hz fun x a=>EK.rel_mono hz d.e x a⟩
  ·cases h
def j0i(k:IntKind):List AV→Option (Int×List AV)
 | .int k' _ x::r=>if k' =k then some (x,r)else none
 | .is k' (n+1) l::r=>if k' =k then some (l.getD 0 0,match n with|0=>r|n+1=> .is k (n+1) (l.drop 1)::r)else none
 |_=>none
def j96(k:IntKind):Nat→List AV→Option (LI×List AV)
 |0,xs=>some ([],xs)
 |n+1,xs=>match j0i k xs with
  |some (x,r)=>match j96 k n r with
   |some (l,r')=>some (x::l,r')
   |none=>none
  |none=>none
def j0j(k:IntKind)(n:Nat)(xs:List AV):Option (LI×List AV):=
 match xs with
 | .is k' n' l::r=>if k' =k∧n' =n then some (l,r)else j96 k n xs
 |_=>j96 k n xs
theorem zt2{M:List Place}{k:IntKind}{xs:List AV}{a:List Value}(h:RelC M xs a){x:Int}{r:List AV}(hp:j0i k xs=some (x,r)):∃a',a= .int k x::a' ∧k.has x∧RelC M r a' :=by
 unfold j0i at hp
 split at hp
 ·rename_i k' l y r'
  split at hp
  ·rename_i hk
   subst hk
   simp only[yf,ym]at hp
   obtain⟨rfl,rfl⟩:=hp
   obtain⟨b,t,rfl,hx,hr⟩:=RelC_cons.1 h
   obtain⟨e,h1,_⟩:=RelX_int.1 hx
   exact⟨t,by rw[e];rfl,h1,hr⟩
  ·cases hp
 ·rename_i k' n l r'
  split at hp
  ·rename_i hk
   subst hk
   simp only[yf,ym]at hp
   obtain⟨rfl,rfl⟩:=hp
   obtain⟨b,t,rfl,hx,hr⟩:=RelC_cons.1 h
   obtain⟨h1,h2,h3⟩:=RelX_is.1 hx
   cases l with
   |nil=>simp at h1
   |cons z l=>
    simp at h1
    refine⟨l.map (.int k')++t,by rw[h2];rfl,h3 z (by simp),?_⟩
    cases n with
    |zero=>
     have:l=[]:=List.length_eq_zero_iff.1 h1
     subst this
     exact hr
    |succ n=>exact RelC_cons.2 ⟨l.map (.int k'),t,rfl,RelX_is.2 ⟨h1,rfl,fun x hx=>h3 x (by simp at hx;simp[hx])⟩,hr⟩
  ·cases hp
 ·cases hp
theorem zho{M:List Place}{k:IntKind}:∀{n:Nat} {xs:List AV} {a:List Value} {l:LI} {r:List AV},RelC M xs a→j96 k n xs=some (l,r)→∃a',a=l.map (.int k)++a' ∧l.length=n∧(∀x∈l,k.has x)∧RelC M r a'
 |0,xs,a,l,r,h,hp=>by
  simp only[j96,yf,ym]at hp
  obtain⟨rfl,rfl⟩:=hp
  exact⟨a,rfl,rfl,by simp,h⟩
 |n+1,xs,a,l,r,h,hp=>by
  simp only[j96]at hp
  split at hp
  ·rename_i x r1 h1
   split at hp
   ·rename_i l2 r2 h2
    simp only[yf,ym]at hp
    obtain⟨rfl,rfl⟩:=hp
    obtain⟨a1,rfl,hx,hr⟩:=zt2 h h1
    obtain⟨a2,rfl,hl,ha,hr2⟩:=zho hr h2
    refine⟨a2,rfl,by simp[hl],fun z hz=> ?_,hr2⟩
    rcases yr.1 hz with rfl|hz
    ·exact hx
    ·exact ha z hz
   ·cases hp
  ·cases hp
theorem zt3{M:List Place}{k:IntKind}{n:Nat}{xs:List AV}{a:List Value}{l:LI}{r:List AV}(h:RelC M xs a)(hp:j0j k n xs=some (l,r)):∃a',a=l.map (.int k)++a' ∧l.length=n∧(∀x∈l,k.has x)∧RelC M r a' :=by
 unfold j0j at hp
 split at hp
 ·rename_i k' n' l' r'
  split at hp
  ·rename_i hk
   obtain⟨rfl,rfl⟩:=hk
   simp only[yf,ym]at hp
   obtain⟨rfl,rfl⟩:=hp
   obtain⟨b,t,rfl,hx,hr⟩:=RelC_cons.1 h
   obtain⟨h1,h2,h3⟩:=RelX_is.1 hx
   exact⟨t,by rw[h2],h1,h3,hr⟩
  ·exact zho h hp
 ·exact zho h hp
def pop1:(t:CTy)→List AV→Option (t.den×List AV)
 | .int k,xs=>j0i k xs
 | .bool,.bool _ x::r=>some (x,r)
 | .is k n,xs=>j0j k n xs
 | .str,x::r=>match zt1 x with
  |some l=>some (l,r)
  |none=>none
 | .fsl k sz,x::r=>match zhm k sz x with
  |some l=>some (l,r)
  |none=>none
 | .dsl e,x::r=>match zhn e x with
  |some l=>some (l,r)
  |none=>none
 |_,_=>none
theorem qrm{M M' :List Place}{t:CTy}(hz:qwj [t]=true→FzSub M M'){xs:List AV}{vs:List Value}{x:t.den}{ys:List AV}(h:pop1 t xs=some (x,ys))(hr:RelC M xs vs):∃a r,vs=a++r∧RelX M' (mk1 t x) a∧RelC M ys r:=by
 cases t with
 |int k=>
  obtain⟨a',rfl,h1,h2⟩:=zt2 hr h
  exact⟨[.int k x],a',rfl,RelX_int.2 ⟨rfl,h1,fun m hm=>by cases hm⟩,h2⟩
 |bool=>
  cases xs with
  |nil=>simp[pop1]at h
  |cons c r=>
   cases c<;>simp only[pop1,reduceCtorEq,yf,ym]at h
   obtain⟨rfl,rfl⟩:=h
   obtain⟨a,t,rfl,hx,hr'⟩:=RelC_cons.1 hr
   simp only[RelX]at hx
   exact⟨a,t,rfl,by simp[mk1,RelX,hx.1],hr'⟩
 |is k n=>
  obtain⟨a',rfl,h1,h2,h3⟩:=zt3 hr h
  exact⟨List.map (Value.int k) x,a',rfl,RelX_is.2 ⟨h1,rfl,h2⟩,h3⟩
 |str=>
  cases xs with
  |nil=>simp[pop1]at h
  |cons c r=>
   simp only[pop1]at h
   split at h
   ·rename_i l hl
    cases h
    obtain⟨a,t,rfl,hx,hr'⟩:=RelC_cons.1 hr
    exact⟨a,t,rfl,z8a hl hx,hr'⟩
   ·cases h
 |fsl k sz=>
  cases xs with
  |nil=>simp[pop1]at h
  |cons c r=>
   simp only[pop1]at h
   split at h
   ·rename_i l hl
    cases h
    obtain⟨a,t,rfl,hx,hr'⟩:=RelC_cons.1 hr
    exact⟨a,t,rfl,qzy (hz rfl) hl hx,hr'⟩
   ·cases h
 |dsl e=>
  cases xs with
  |nil=>simp[pop1]at h
  |cons c r=>
   simp only[pop1]at h
   split at h
   ·rename_i l hl
    cases h
    obtain⟨a,t,rfl,hx,hr'⟩:=RelC_cons.1 hr
    exact⟨a,t,rfl,qzz (hz rfl) hl hx,hr'⟩
   ·cases h
def getCs:(cs:List CTy)→List AV→Option (DC cs)
 |[],[]=>some ()
 |[],_::_=>none
 |t::r,xs=>match pop1 t xs with
  |some (x,ys)=>match getCs r ys with
   |some d=>some (x,d)
   |none=>none
  |none=>none
theorem j97{t:CTy}{r:List CTy}(h:qwj [t]=true):qwj (t::r)=true:=by
 cases t<;>first|rfl|cases h
theorem j98{t:CTy}{r:List CTy}(h:qwj r=true):qwj (t::r)=true:=by
 cases t<;>first|rfl|exact h
theorem j0k{M M' :List Place}:∀{cs:List CTy} {xs:List AV} {a:List Value} {d:DC cs},(qwj cs=true→FzSub M M')→getCs cs xs=some d→RelC M xs a→RelC M' (mkCs cs d) a
 |[],[],a,d,_,h,hr=>by
  rw[RelC_nil]at hr
  exact RelC_nil.2 hr
 |[],_::_,a,d,_,h,hr=>by cases h
 |t::r,xs,a,d,hz,h,hr=>by
  simp only[getCs]at h
  split at h
  ·rename_i x ys h1
   split at h
   ·rename_i d' h2
    cases h
    obtain⟨a',r',rfl,hx,hr'⟩:=qrm (fun h=>hz (j97 h)) h1 hr
    exact RelC_cons.2 ⟨a',r',rfl,hx,j0k (fun h=>hz (j98 h)) h2 hr'⟩
   ·cases h
  ·cases h
def getT:(t:Ty)→AV→Option t.den
 | .int k,.int k' _ x=>if k' =k then some x else none
 | .bool,.bool _ x=>some x
 | .is k n,.agg xs=>match j0j k n xs with
  |some (l,[])=>some l
  |_=>none
 | .agg cs,.agg xs=>getCs cs xs
 | .str,x=>zt1 x
 | .fsl k sz,x=>zhm k sz x
 | .dsl e,x=>zhn e x
 |_,_=>none
def getC:(t:Ty)→AV→Option t.den
 | .int k,.int k' _ x=>if k' =k then some x else none
 | .bool,.bool _ x=>some x
 | .is k n,.is k' n' l=>if k' =k∧n' =n then some l else none
 | .str,x=>zt1 x
 | .fsl k sz,x=>zhm k sz x
 | .dsl e,x=>zhn e x
 |_,_=>none
theorem zue{M M' :List Place}{t:Ty}(hz:t.deep=true→FzSub M M'){a:AV}{x:t.den}{v:Value}(h:getT t a=some x)(hr:RelV M a v):RelV M' (mkT t x) v:=by
 cases t with
 |int k=>
  cases a<;>simp only[getT,reduceCtorEq]at h
  split at h
  ·rename_i hk
   subst hk
   cases h
   obtain⟨e,h1,_⟩:=q32 hr
   subst e
   exact RelX_int.2 ⟨rfl,h1,fun m hm=>by cases hm⟩
  ·cases h
 |bool=>
  cases a<;>simp only[getT,reduceCtorEq]at h
  cases h
  obtain⟨e,_⟩:=q25 hr
  subst e
  simp[mkT,RelV,RelX]
 |is k n=>
  cases a<;>simp only[getT,reduceCtorEq]at h
  split at h
  ·rename_i l h1
   cases h
   obtain⟨vs,e,hc⟩:=RelX_agg.1 hr
   obtain⟨a',ha,hl,hx,hr'⟩:=zt3 hc h1
   rw[RelC_nil]at hr'
   subst hr'
   exact RelX_agg.2 ⟨vs,e,RelC_single.2 (RelX_is.2 ⟨hl,by simpa using ha,hx⟩)⟩
  ·cases h
 |agg cs=>
  cases a<;>simp only[getT,reduceCtorEq]at h
  obtain⟨vs,e,hc⟩:=RelX_agg.1 hr
  exact RelX_agg.2 ⟨vs,e,j0k hz h hc⟩
 |row k=>simp[getT]at h
 |drow e=>simp[getT]at h
 |mapc i=>simp[getT]at h
 |str=>exact z8a h hr
 |fsl k sz=>exact qzy (hz rfl) h hr
 |dsl e=>exact qzz (hz rfl) h hr
theorem getC_rel{M M' :List Place}{t:Ty}(hz:t.deep=true→FzSub M M'){a:AV}{x:t.den}{vs:List Value}(h:getC t a=some x)(hr:RelX M a vs):RelX M' (mkC t x) vs:=by
 cases t with
 |int k=>
  cases a<;>simp only[getC,reduceCtorEq]at h
  split at h
  ·rename_i hk
   subst hk
   cases h
   obtain⟨e,h1,_⟩:=RelX_int.1 hr
   exact RelX_int.2 ⟨e,h1,fun m hm=>by cases hm⟩
  ·cases h
 |bool=>
  cases a<;>simp only[getC,reduceCtorEq]at h
  cases h
  simp only[RelX]at hr
  simp[mkC,RelX,hr.1]
 |is k n=>
  cases a<;>simp only[getC,reduceCtorEq]at h
  split at h
  ·rename_i hk
   obtain⟨rfl,rfl⟩:=hk
   cases h
   exact RelX_is.2 (RelX_is.1 hr)
  ·cases h
 |agg cs=>simp[getC]at h
 |row k=>simp[getC]at h
 |drow e=>simp[getC]at h
 |mapc i=>simp[getC]at h
 |str=>exact z8a h hr
 |fsl k sz=>exact qzy (hz rfl) h hr
 |dsl e=>exact qzz (hz rfl) h hr
def zuf:AV→AV→Bool
 | .undef,.is _ _ _=>false
 | .undef,_=>true
 | .int k (some m) x,.int k' (some m') _=>decide (k=k')&&(m==m')&&(x==m)
 | .bool (some m) x,.bool (some m') _=>(m==m')&&(x==m)
 | .nilp,.nilp=>true
 | .nils,.nils=>true
 | .nilf,.nilf=>true
 | .niface,.niface=>true
 |_,_=>false
theorem z4t{M M' :List Place}{a b:AV}{v:Value}(h:zuf a b=true)(hr:RelV M b v):RelV M' a v:=by
 cases a<;>try (exact q43 _ _)
 case int k l x=>
  cases l<;>cases b<;>try (cases h;done)
  rename_i m k' l' y
  cases l' <;>try (cases h;done)
  simp only[zuf,yl,decide_eq_true_eq,beq_iff_eq]at h
  obtain⟨⟨rfl,rfl⟩,rfl⟩:=h
  obtain⟨e,h1,h2⟩:=RelX_int.1 hr
  have:=h2 _ rfl
  subst this
  exact RelX_int.2 ⟨e,h1,fun m hm=>by cases hm;rfl⟩
 case bool l x=>
  cases l<;>cases b<;>try (cases h;done)
  rename_i m l' y
  cases l' <;>try (cases h;done)
  simp only[zuf,yl,beq_iff_eq]at h
  obtain⟨rfl,rfl⟩:=h
  simp only[RelV,RelX]at hr⊢
  have:=hr.2 _ rfl
  subst this
  exact⟨hr.1,fun m hm=>by cases hm;rfl⟩
 all_goals
  cases b<;>try (cases h;done)
  try exact hr
inductive Src where
 |same (b:Nat)
 |slot (t:Nat)
 |cell (p:Src) (j:Nat)
 |cap (p:Src) (j:Nat)
 |part (p:Src) (j:Nat)
inductive CI where
 |hole (t:Ty)
 |const (a:AV)
 |sl (b sz:Nat) (c:CapK)
 |ptr (b w:Nat)
 |fnp (f:FuncId) (ps:List (Nat×Nat))
inductive Item where
 |row (k:IntKind) (sz:Nat) (src:Src) (own:Bool) (pin:Option Nat:=none)
 |drow (e:EK) (src:Src) (own:Bool) (pin:Option Nat:=none)
 |segs (cs:List CI) (src:Src) (own:Bool) (pin:Option Nat:=none)
 |drop
 |slot (t:Nat) (ty:Ty)
 |const (t:Nat) (a:AV)
 |sl (t b sz:Nat) (c:CapK)
 |ptr (t b w:Nat)
 |fn (t:Nat) (f:FuncId) (cs:List CI)
 |cells (t:Nat) (cs:List CI)
@[reducible] def tysC:List CI→List Ty→List Ty
 |[],acc=>acc
 | .hole t::r,acc=>t::tysC r acc
 | .const _::r,acc=>tysC r acc
 | .sl _ _ _::r,acc=>tysC r acc
 | .ptr _ _::r,acc=>tysC r acc
 | .fnp _ _::r,acc=>tysC r acc
@[reducible] def tysI:List Item→List Ty→List Ty
 |[],acc=>acc
 | .row k _ _ _ _::r,acc=> .row k::tysI r acc
 | .drow e _ _ _::r,acc=> .drow e::tysI r acc
 | .segs cs _ _ _::r,acc=>tysC cs (tysI r acc)
 | .slot _ t::r,acc=>t::tysI r acc
 | .drop::r,acc=>tysI r acc
 | .const _ _::r,acc=>tysI r acc
 | .sl _ _ _ _::r,acc=>tysI r acc
 | .ptr _ _ _::r,acc=>tysI r acc
 | .fn _ _ cs::r,acc=>tysC cs (tysI r acc)
 | .cells _ cs::r,acc=>tysC cs (tysI r acc)
def div1(n sz:Nat):Nat:=match sz with|1=>n|s=>n/s
theorem j4s(n sz:Nat):div1 n sz=n/sz:=by unfold div1;split<;>simp
def zbl(H:Heap)(b:Nat):Nat:=
 match H[b]? with
 |some (some ⟨.row _ l,_,_⟩)=>l.length
 |some (some ⟨.drow d,_,_⟩)=>mul1 d.l.length d.e.w
 |_=>0
def bldC(H:Heap):(cs:List CI)→(acc:List Ty)→D (tysC cs acc)→List AV×D acc
 |[],_,d=>([],d)
 | .hole t::r,acc,d=>(mkC t d.1::(bldC H r acc d.2).1,(bldC H r acc d.2).2)
 | .const a::r,acc,d=>(a::(bldC H r acc d).1,(bldC H r acc d).2)
 | .sl b sz c::r,acc,d=>(.sl b 0 (div1 (zbl H b) sz) sz c::(bldC H r acc d).1,(bldC H r acc d).2)
 | .ptr b w::r,acc,d=>(.ptr b 0 none w w::(bldC H r acc d).1,(bldC H r acc d).2)
 | .fnp f ps::r,acc,d=>(.fn f [] (ps.map fun p=> .ptr p.1 0 none p.2 p.2)::(bldC H r acc d).1,(bldC H r acc d).2)
def z1f(ts:List AV)(src:Src)(b len sz:Nat)(own:Bool):List AV:=
 match src with
 | .slot t=>ts.set t (.sl b 0 (div1 len sz) sz (if own then .own else .whole))
 |_=>ts
def bldI:(its:List Item)→(acc:List Ty)→D (tysI its acc)→St→St×D acc
 |[],_,d,st=>(st,d)
 | .row k sz src own pin::r,acc,d,st=>bldI r acc d.2 ⟨z1f st.tmps src st.heap.length (ya (α:=Int) d.1) sz own,st.heap++[some ⟨.row k d.1,own,pin⟩]⟩
 | .drow e src own pin::r,acc,d,st=>bldI r acc d.2 ⟨z1f st.tmps src st.heap.length (mul1 (ya (α:=e.den) d.1) e.w) e.w own,st.heap++[some ⟨.drow ⟨e,d.1⟩,own,pin⟩]⟩
 | .segs cs _ own pin::r,acc,d,st=>bldI r acc (bldC st.heap cs (tysI r acc) d).2 ⟨st.tmps,st.heap++[some ⟨.segs (bldC st.heap cs (tysI r acc) d).1,own,pin⟩]⟩
 | .drop::r,acc,d,st=>bldI r acc d ⟨st.tmps,st.heap++[none]⟩
 | .slot t ty::r,acc,d,st=>bldI r acc d.2 ⟨st.tmps.set t (mkT ty d.1),st.heap⟩
 | .const t a::r,acc,d,st=>bldI r acc d ⟨st.tmps.set t a,st.heap⟩
 | .sl t b sz c::r,acc,d,st=>bldI r acc d ⟨st.tmps.set t (.sl b 0 (div1 (zbl st.heap b) sz) sz c),st.heap⟩
 | .ptr t b w::r,acc,d,st=>bldI r acc d ⟨st.tmps.set t (.ptr b 0 none w w),st.heap⟩
 | .fn t f cs::r,acc,d,st=>bldI r acc (bldC st.heap cs (tysI r acc) d).2 ⟨st.tmps.set t (.fn f [] (bldC st.heap cs (tysI r acc) d).1),st.heap⟩
 | .cells t cs::r,acc,d,st=>bldI r acc (bldC st.heap cs (tysI r acc) d).2 ⟨st.tmps.set t (.agg (bldC st.heap cs (tysI r acc) d).1),st.heap⟩
structure Act where
 id:Option Nat
 whole:Bool
 own:Bool
 row:Bool
def cellOf(H:Heap)(b j:Nat):Option AV:=
 match H[b]? with
 |some (some ⟨.segs cs,_,_⟩)=>cellAt1 cs j
 |_=>none
where cellAt1:List AV→Nat→Option AV
 |[],_=>none
 |x::_,0=>some x
 |_::r,j+1=>cellAt1 r j
def qvh(st:St):Src→Option AV
 | .same _=>none
 | .slot t=>some (st.tmps.getD t .undef)
 | .cell p j=>match qvh st p with
  |some (.ptr b 0 none _ _)=>match st.heap[b]? with
   |some (some ⟨.segs cs,_,_⟩)=>qiq cs j
   |_=>none
  |_=>none
 | .cap p j=>match qvh st p with
  |some (.fn _ [] caps)=>cellOf.cellAt1 caps j
  |_=>none
 | .part p j=>match qvh st p with
  |some (.agg cs)=>qiq cs j
  |_=>none
def srcBlk(st:St):Src→Option Nat
 | .same b=>some b
 |p=>match qvh st p with
  |some (.ptr b 0 none _ _)=>some b
  |_=>none
def fresh(acts:List Act)(own:Bool)(b:Nat):Bool:=acts.all fun a=> !(a.id==some b)|| !(own||a.own)
def qrn(acts:List Act)(own:Bool)(ac:Act):Bool:=match ac.id with|some b=>fresh acts own b|none=>true
def qfd(c:CapK):Bool:=match c with| .own| .whole=>true|_=>false
def qvi(chk:Bool)(pin op:Option Nat)(whole:Bool):Bool:=match pin with
 |none=>true
 |some k=>whole&&(!chk||decide (op=some k))
def j0l(e:EK)(d:EKs):Option (List e.den):=if h:d.e=e then some (h▸d.l)else none
theorem zt4{e:EK}{d:EKs}{l:List e.den}(h:j0l e d=some l):d=⟨e,l⟩:=by
 unfold j0l at h
 split at h
 ·rename_i he
  subst he
  cases h
  rfl
 ·cases h
def z8b(st:St)(chk:Bool)(e:EK)(src:Src)(own:Bool)(pin:Option Nat):Option (Act×List e.den):=
 match src with
 | .same b=>match st.heap[b]? with
  |some (some ⟨.drow d,o,op⟩)=>if(own=true→o=true)∧qvi chk pin op true=true then(match j0l e d with|some l=>some (⟨some b,true,own,true⟩,l)|none=>none)else none
  |_=>none
 |src=>match qvh st src with
  |some .nils=>if qvi chk pin none true=true then some (⟨none,true,own,true⟩,[])else none
  |some (.sl b _ _ s c)=>if s=e.w∧(own=true→c= .own)∧qfd c=true then
    match st.heap[b]? with
    |some (some ⟨.drow d,o,op⟩)=>if(own=true→o=true)∧qvi chk pin op true=true then(match j0l e d with|some l=>some (⟨some b,true,own,true⟩,l)|none=>none)else none
    |_=>none
   else none
  |_=>none
def j7a(st:St)(chk:Bool)(k:IntKind)(sz:Nat)(own:Bool)(pin:Option Nat):Option AV→Option (Act×LI)
 |some .nils=>if qvi chk pin none true=true then some (⟨none,true,own,true⟩,[])else none
 |some (.sl b off len s c)=>if s=sz∧(own=true→c= .own)then
   match st.heap[b]? with
   |some (some ⟨_,o,op⟩)=>if(own=true→o=true)∧qvi chk pin op (qfd c)=true then
     match zbh st.heap (.sl b off len s c)with
     |some (.row k' l)=>if k' =k then some (⟨some b,qfd c,own,true⟩,l)else none
     |_=>none
    else none
   |_=>none
  else none
 |some (.fsl k' s l)=>if s=sz∧k' =k∧own=false∧pin=none then some (⟨none,false,false,true⟩,l)else none
 |_=>none
def zhp(st:St)(chk:Bool)(k:IntKind)(sz:Nat)(src:Src)(own:Bool)(pin:Option Nat):Option (Act×LI):=
 match src with
 | .same b=>match st.heap[b]? with
  |some (some ⟨.row k' l,o,op⟩)=>if k' =k∧(own=true→o=true)∧qvi chk pin op true=true then some (⟨some b,true,own,true⟩,l)else none
  |_=>none
 |src=>j7a st chk k sz own pin (qvh st src)
def slOk(acts:List Act)(b sz:Nat)(c:CapK)(a:AV):Bool:=
 match acts[b]?,a with
 |some ⟨some b',true,o,true⟩,.sl b'' _ _ s c' =>(b'' ==b')&&(s==sz)&&qfd c' &&(match c with| .own=>(match c' with| .own=>o|_=>false)| .whole=>true|_=>false)
 |some ⟨none,true,o,true⟩,.nils=>match c with| .own=>o| .whole=>true|_=>false
 |_,_=>false
def j4t(acts:List Act)(b w:Nat)(a:AV):Bool:=
 match acts[b]?,a with
 |some ⟨some b',true,_,_⟩,.ptr b'' 0 none room _=>(b'' ==b')&&decide (w≤room)
 |_,_=>false
def zbm(acts:List Act):List (Nat×Nat)→List AV→Bool
 |[],[]=>true
 |p::ps,x::xs=>j4t acts p.1 p.2 x&&zbm acts ps xs
 |_,_=>false
def popC:(t:Ty)→List AV→Option (t.den×List AV)
 | .int k,xs=>j0i k xs
 | .bool,.bool _ x::r=>some (x,r)
 | .is k n,xs=>j0j k n xs
 | .str,x::r=>match zt1 x with
  |some l=>some (l,r)
  |none=>none
 | .fsl k sz,x::r=>match zhm k sz x with
  |some l=>some (l,r)
  |none=>none
 | .dsl e,x::r=>match zhn e x with
  |some l=>some (l,r)
  |none=>none
 |_,_=>none
def extC(st:St)(acts:List Act):(cs:List CI)→(acc:List Ty)→D acc→List AV→Option (D (tysC cs acc))
 |[],_,rest,[]=>some rest
 | .hole t::r,acc,rest,xs=>match popC t xs with
  |some (v,ys)=>match extC st acts r acc rest ys with
   |some d=>some (v,d)
   |none=>none
  |none=>none
 | .const a::r,acc,rest,x::xs=>if zuf a x then extC st acts r acc rest xs else none
 | .sl b sz c::r,acc,rest,x::xs=>if slOk acts b sz c x&&decide (1≤sz)then extC st acts r acc rest xs else none
 | .ptr b w::r,acc,rest,x::xs=>if j4t acts b w x=true then extC st acts r acc rest xs else none
 | .fnp f ps::r,acc,rest,x::xs=>match x with
  | .fn f' [] caps=>if f' =f∧zbm acts ps caps=true then extC st acts r acc rest xs else none
  |_=>none
 |_,_,_,_=>none
def extV(st:St)(acts:List Act):(cs:List CI)→(acc:List Ty)→D acc→List AV→Option (D (tysC cs acc))
 |[],_,rest,[]=>some rest
 | .hole t::r,acc,rest,x::xs=>match getC t x,extV st acts r acc rest xs with
  |some v,some d=>some (v,d)
  |_,_=>none
 | .const a::r,acc,rest,x::xs=>if zuf a x then extV st acts r acc rest xs else none
 | .sl b sz c::r,acc,rest,x::xs=>if slOk acts b sz c x&&decide (1≤sz)then extV st acts r acc rest xs else none
 | .ptr b w::r,acc,rest,x::xs=>if j4t acts b w x=true then extV st acts r acc rest xs else none
 | .fnp f ps::r,acc,rest,x::xs=>match x with
  | .fn f' [] caps=>if f' =f∧zbm acts ps caps=true then extV st acts r acc rest xs else none
  |_=>none
 |_,_,_,_=>none
def extI(st:St)(chk:Bool):(its:List Item)→(acc:List Ty)→D acc→List Act→Option (D (tysI its acc))
 |[],_,rest,_=>some rest
 | .row k sz src own pin::r,acc,rest,acts=>match zhp st chk k sz src own pin with
  |some (act,l)=>if 1≤sz∧qrn acts own act=true then
    (match extI st chk r acc rest (acts++[act])with|some d=>some (l,d)|none=>none)
   else none
  |none=>none
 | .drow e src own pin::r,acc,rest,acts=>match z8b st chk e src own pin with
  |some (act,l)=>if qrn acts own act=true then
    (match extI st chk r acc rest (acts++[act])with|some d=>some (l,d)|none=>none)
   else none
  |none=>none
 | .segs cs src own pin::r,acc,rest,acts=>match srcBlk st src with
  |some b=>match st.heap[b]? with
   |some (some ⟨.segs xs,o,op⟩)=>if(own=true→o=true)∧fresh acts own b=true∧qvi chk pin op true=true then
     (match extI st chk r acc rest (acts++[⟨some b,true,own,false⟩])with|some d=>extC st acts cs (tysI r acc) d xs|none=>none)
    else none
   |_=>none
  |none=>none
 | .drop::r,acc,rest,acts=>extI st chk r acc rest (acts++[⟨none,false,false,false⟩])
 | .slot t ty::r,acc,rest,acts=>match getT ty (st.tmps.getD t .undef),extI st chk r acc rest acts with
  |some v,some d=>some (v,d)
  |_,_=>none
 | .const t a::r,acc,rest,acts=>if zuf a (st.tmps.getD t .undef)then extI st chk r acc rest acts else none
 | .sl t b sz c::r,acc,rest,acts=>if slOk acts b sz c (st.tmps.getD t .undef)&&decide (1≤sz)then extI st chk r acc rest acts else none
 | .ptr t b w::r,acc,rest,acts=>if j4t acts b w (st.tmps.getD t .undef)=true then extI st chk r acc rest acts else none
 | .fn t f cs::r,acc,rest,acts=>match st.tmps.getD t .undef with
  | .fn f' [] caps=>if f' =f then(match extI st chk r acc rest acts with|some d=>extV st acts cs (tysI r acc) d caps|none=>none)else none
  |_=>none
 | .cells t cs::r,acc,rest,acts=>match st.tmps.getD t .undef with
  | .agg xs=>match extI st chk r acc rest acts with|some d=>extC st acts cs (tysI r acc) d xs|none=>none
  |_=>none
def qkk(st:St)(chk:Bool):List Item→List Act
 |[]=>[]
 | .row k sz src own pin::r=>(match zhp st chk k sz src own pin with|some (act,_)=>[act]|none=>[])++qkk st chk r
 | .drow e src own pin::r=>(match z8b st chk e src own pin with|some (act,_)=>[act]|none=>[])++qkk st chk r
 | .segs _ src own _::r=>(match srcBlk st src with|some b=>[⟨some b,true,own,false⟩]|none=>[])++qkk st chk r
 | .drop::r=>⟨none,false,false,false⟩::qkk st chk r
 |_::r=>qkk st chk r
theorem RelH.addNone{M:List Place}{H:Heap}{B:Base}{w:World}(r:RelH M H B w)(pl:Place)(hz:∀k ob,pl.fz k=some ob→FzAt M k ob):RelH (M++[pl]) (H++[none]) B w:=by
 have hE:Ext M (M++[pl]):=Ext.snoc M _
 have hlen:=r.len
 have back:∀(i:Nat) (oi:AObj),(H++[none])[i]? =some (some oi)→i<M.length∧H[i]? =some (some oi):=by
  intro i oi hi
  rw[List.getElem?_append]at hi
  split at hi
  ·exact⟨by omega,hi⟩
  ·have h3:i-H.length=0:=by
    rcases Nat.eq_zero_or_pos (i-H.length)with h|h
    ·exact h
    ·rw[w9 (by simp;omega)]at hi;cases hi
   rw[h3]at hi
   simp at hi
 refine⟨by simp[hlen],r.base,fun i oi hi=> ?_,fun i j oi oj pi pj hi hj hpi hpj hne how hni hnj=> ?_,fun i oi pi k hi hpi hk=> ?_,fun i oi pi hi hpi hn=> ?_,fun k ob hk=>r.fz k ob (FzAt.snocS hz hk),fun i oi pi hi hpi how hn=> ?_,r.bf⟩
 ·obtain⟨hlt,hi'⟩:=back i oi hi
  obtain⟨pi,hpi,hoki⟩:=r.obj i oi hi'
  refine⟨pi,hE _ _ hpi,?_⟩
  rcases hoki with⟨n1,n2,n3⟩|⟨n1,cs1,el1,fz1,g1,g2,g3,g4,g5⟩
  ·exact .inl ⟨n1,n2,n3.mono hE⟩
  ·exact .inr ⟨n1,cs1,el1,fz1,g1,g2,g3,g4.mono hE,g5⟩
 ·obtain⟨hlt,hi'⟩:=back i oi hi
  obtain⟨hlt2,hj'⟩:=back j oj hj
  rw[yg hlt]at hpi
  rw[yg hlt2]at hpj
  exact r.sep i j oi oj pi pj hi' hj' hpi hpj hne how hni hnj
 ·obtain⟨hlt,hi'⟩:=back i oi hi
  rw[yg hlt]at hpi
  exact r.pin i oi pi k hi' hpi hk
 ·obtain⟨hlt,hi'⟩:=back i oi hi
  rw[yg hlt]at hpi
  exact r.vis i oi pi hi' hpi hn
 ·obtain⟨hlt,hi'⟩:=back i oi hi
  rw[yg hlt]at hpi
  exact⟨(r.fo i oi pi hi' hpi how hn).1,fun ob h=>(r.fo i oi pi hi' hpi how hn).2 ob (FzAt.snocS hz h)⟩
def j0m(M:List Place)(ac:Act)(pl:Place):Prop:=
 (ac.id=none→(ac.whole=true→pl=⟨true,0,0,0,0,noFz⟩)∧(pl.nil=false→ac.own=false∧∃ob,FzAt M pl.blk ob))∧∀k ob,pl.fz k=some ob→FzAt M k ob
def jbf:Cont→Bool
 | .row _ _| .drow _=>true
 | .segs _=>false
structure Told (M:List Place) (st:St) (B:Base) (w:World) (a:Array Value) (acts:List Act) (M1:List Place) (st1:St):Prop where
 tmps:RelT M1 st1.tmps a
 heap:RelH M1 st1.heap B w
 len:acts.length=M1.length
 act:∀(i:Nat) (ac:Act),acts[i]? =some ac→∃p1,M1[i]? =some p1∧
  (∀b,ac.id=some b→∃o p,st.heap[b]? =some (some o)∧M[b]? =some p∧p1.nil=p.nil∧p1.blk=p.blk∧(ac.own=true→o.own=true)∧(ac.whole=true→p1=p))∧
  j0m M ac p1∧
  (∀oi,st1.heap[i]? =some (some oi)→oi.own=ac.own)∧
  (ac.row=true→∃c o pn,st1.heap[i]? =some (some ⟨c,o,pn⟩)∧jbf c=true)
 fz:FzSub M M1
 zf:FzSub M1 M
theorem j4u{M1:List Place}{H1:Heap}{B:Base}{w:World}(r:RelH M1 H1 B w){b:Nat}{c:Cont}{o:Bool}{pn:Option Nat}(h:H1[b]? =some (some ⟨c,o,pn⟩))(hc:jbf c=true){p:Place}(hp:M1[b]? =some p):zbl H1 b=p.n:=by
 obtain⟨p',hp',hok⟩:=r.obj b _ h
 rw[hp]at hp'
 cases hp'
 unfold zbl
 rw[h]
 rcases hok with⟨_,n2,n3⟩|⟨_,cs,el,fz,_,h2,h3,h4,_⟩
 ·cases c with
  |segs cs=>cases hc
  |row k l=>
   have:=congrArg ya n3.1
   simp at this
   simp[this,n2]
  |drow d=>
   have:=n3.1
   simp only[List.length_nil]at this
   simp only[qb4]
   omega
 ·cases c with
  |segs cs=>cases hc
  |row k l=>
   have:=congrArg ya h4.1
   simp at this
   simp only
   omega
  |drow d=>
   have:=h4.1
   simp at this
   simp only[qb4]
   omega
theorem qro{n len sz:Nat}(h:n=len*sz)(hs:1≤sz):div1 n sz=len:=by
 rw[j4s,h,Nat.mul_div_cancel _ (by omega)]
theorem z8c{M:List Place}{st:St}{B:Base}{w:World}{a:Array Value}{acts:List Act}{M1:List Place}{st1:St}(t:Told M st B w a acts M1 st1){b sz:Nat}{c:CapK}{x:AV}{v:Value}(h:slOk acts b sz c x=true)(hs:1≤sz)(hx:RelV M x v):
  RelV M1 (.sl b 0 (div1 (zbl st1.heap b) sz) sz c) v:=by
 unfold slOk at h
 split at h
 ·rename_i b' o b'' off len s c' ha
  simp only[yl,beq_iff_eq]at h
  obtain⟨⟨⟨rfl,rfl⟩,hw⟩,hc⟩:=h
  obtain⟨p1,hp1,hid,_,hown1,hrow⟩:=t.act b _ ha
  obtain⟨o',p,ho',hp,_,_,_,hwh⟩:=hid b'' rfl
  have:=hwh rfl
  subst this
  obtain⟨c2,o2,pn,hr,hrc⟩:=hrow rfl
  have hlen:=j4u t.heap hr hrc hp1
  simp only[RelV,RelX]at hx⊢
  obtain⟨pl,A,cap,hpl,hv,hb,hcap,hnil,hnn,hfull,hown,hwhole,hhas⟩:=hx
  rw[hp]at hpl
  cases hpl
  have h0:off=0∧len*s=p1.n:=by
   cases c' <;>simp[qfd]at hw
   ·exact⟨(hown rfl).1,(hown rfl).2.2.1⟩
   ·exact hwhole rfl
  have hdiv:div1 (zbl st1.heap b) s=len:=qro (by omega) hs
  rw[hdiv]
  obtain⟨rfl,h0⟩:=h0
  refine⟨p1,A,cap,hp1,hv,hb,hcap,fun hn=>⟨fun hf=>(by subst hf;cases c' <;>simp at hc;exact(hnil hn).1 rfl),(hnil hn).2⟩,fun hn=>⟨(hnn hn).1,fun hq=> ?_⟩,fun hf=> ?_,fun hf=> ?_,fun hf=>⟨trivial,h0⟩,hhas⟩
  ·rcases hq with hq|hq
   ·exact(hnn hn).2 (.inl hq)
   ·subst hq
    cases c' <;>simp at hc
    exact(hnn hn).2 (.inr rfl)
  ·subst hf
   simp at hc
  ·subst hf
   cases c' <;>simp at hc
   exact⟨trivial,(hown rfl).2⟩
 ·rename_i o ha
  obtain⟨p1,hp1,_,hnone,_,hrow⟩:=t.act b _ ha
  have hn:=(hnone.1 rfl).1 rfl
  subst hn
  obtain⟨c2,o2,pn,hr,hrc⟩:=hrow rfl
  have hlen:=j4u t.heap hr hrc hp1
  have hdiv:div1 (zbl st1.heap b) sz=0:=qro (by simpa using hlen) hs
  have hv:v= .slice none 0 0:=by simpa[RelV,RelX]using hx
  subst hv
  rw[hdiv]
  simp only[RelV,RelX]
  refine⟨_,none,0,hp1,rfl,by simp,wa _,fun _=>⟨fun _=>rfl,rfl⟩,fun h=>(by cases h),fun hf=>(by subst hf;simp at h),fun _=>⟨trivial,rfl,by simp,by simp⟩,fun _=>⟨trivial,by simp⟩,by rw[has_iff];simp[loB,hiB]⟩
 ·cases h
theorem qrp{M:List Place}{st:St}{B:Base}{w:World}{a:Array Value}{acts:List Act}{M1:List Place}{st1:St}(t:Told M st B w a acts M1 st1){b wd:Nat}{x:AV}(h:j4t acts b wd x=true){v:Value}(hx:RelV M x v):RelV M1 (.ptr b 0 none wd wd) v:=by
 unfold j4t at h
 split at h
 ·rename_i b' o rw' b'' room span ha
  simp only[yl,beq_iff_eq,decide_eq_true_eq]at h
  obtain⟨rfl,hw⟩:=h
  obtain⟨p1,hp1,hid,_,_,_⟩:=t.act b _ ha
  obtain⟨o',p,_,hpp,_,_,_,hwh⟩:=hid _ rfl
  have:=hwh rfl
  subst this
  simp only[RelV,RelX]at hx⊢
  obtain⟨pl,hpl,hnil,hv,hd1,hd2⟩:=hx
  rw[hpp]at hpl
  cases hpl
  simp only[Option.getD_none,Nat.add_zero,Nat.zero_add]at*
  exact⟨p1,hp1,hnil,hv,wa _,by omega⟩
 ·cases h
theorem zgr{M M' :List Place}{t:Ty}(hz:t.deep=true→FzSub M M'){xs:List AV}{vs:List Value}{x:t.den}{ys:List AV}(h:popC t xs=some (x,ys))(hr:RelC M xs vs):∃a r,vs=a++r∧RelX M' (mkC t x) a∧RelC M ys r:=by
 cases t with
 |int k=>exact qrm (t:= .int k) (fun h=>by cases h) h hr
 |bool=>
  refine qrm (t:= .bool) (fun h=>by cases h) (ys:=ys) (x:=x) ?_ hr
  cases xs with
  |nil=>simp[popC]at h
  |cons c r=>cases c<;>simp only[popC,reduceCtorEq]at h<;>exact h
 |is k n=>exact qrm (t:= .is k n) (fun h=>by cases h) h hr
 |row k=>simp[popC]at h
 |agg cs=>simp[popC]at h
 |drow e=>simp[popC]at h
 |mapc i=>simp[popC]at h
 |str=>cases xs with
  |nil=>simp[popC]at h
  |cons c r=>exact qrm (t:= .str) (xs:=c::r) (fun h=>by cases h) h hr
 |fsl k sz=>cases xs with
  |nil=>simp[popC]at h
  |cons c r=>exact qrm (t:= .fsl k sz) (xs:=c::r) (fun _=>hz rfl) h hr
 |dsl e=>cases xs with
  |nil=>simp[popC]at h
  |cons c r=>exact qrm (t:= .dsl e) (xs:=c::r) (fun _=>hz rfl) h hr
theorem j7b{M M' :List Place}{t:Ty}(hz:t.deep=true→FzSub M M'){x:t.den}{a:List Value}(h:RelX M (mkC t x) a):RelX M' (mkC t x) a:=by
 cases t with
 |fsl k sz=>exact qzy (a:= .fsl k sz x) (hz rfl) (by simp[zhm]) h
 |dsl e=>exact qzz (a:= .dsl ⟨e,x⟩) (hz rfl) (by simp[zhn]) h
 |_=>simpa only[mkC,RelX]using h
theorem zbn{M:List Place}{st:St}{B:Base}{w:World}{a:Array Value}{acts:List Act}{M1:List Place}{st1:St}(t:Told M st B w a acts M1 st1):∀{ps:List (Nat×Nat)} {xs:List AV} {vs:List Value},zbm acts ps xs=true→RelL M xs vs→
  RelL M1 (ps.map fun p=> .ptr p.1 0 none p.2 p.2) vs
 |[],[],vs,_,h=>by rw[RelL_nil]at h;exact RelL_nil.2 h
 |[],_::_,vs,h,_=>by simp[zbm]at h
 |_::_,[],vs,h,_=>by simp[zbm]at h
 |p::ps,x::xs,vs,h,hl=>by
  simp only[zbm,yl]at h
  obtain⟨v,r,rfl,hx,hr⟩:=RelL_cons.1 hl
  exact RelL_cons.2 ⟨v,r,rfl,qrp t h.1 hx,zbn t h.2 hr⟩
theorem j0n{M:List Place}{st:St}{B:Base}{w:World}{a:Array Value}{acts:List Act}{M1:List Place}{st1:St}(t:Told M st B w a acts M1 st1){f:FuncId}{ps:List (Nat×Nat)}{caps:List AV}(h:zbm acts ps caps=true){v:Value}(hx:RelV M (.fn f [] caps) v):
  RelV M1 (.fn f [] (ps.map fun p=> .ptr p.1 0 none p.2 p.2)) v:=by
 simp only[RelV,RelX]at hx⊢
 obtain⟨x,y,hv,h1,h2⟩:=hx
 exact⟨x,y,hv,by rw[RelL_nil]at h1⊢;exact h1,zbn t h h2⟩
theorem qcn{M:List Place}{st:St}{B:Base}{w:World}{a:Array Value}{acts:List Act}{M1:List Place}{st1:St}(t:Told M st B w a acts M1 st1):∀{cs:List CI} {acc:List Ty} {rest:D acc} {xs:List AV} {vs:List Value} {d:D (tysC cs acc)},
  extC st acts cs acc rest xs=some d→RelC M xs vs→RelC M1 (bldC st1.heap cs acc d).1 vs∧(bldC st1.heap cs acc d).2=rest
 |[],acc,rest,xs,vs,d,h,hr=>by
  cases xs with
  |nil=>
   simp only[extC,yf]at h
   subst h
   exact⟨by simpa[bldC,RelC_nil]using hr,rfl⟩
  |cons _ _=>simp[extC]at h
 | .hole ty::cs,acc,rest,xs,vs,d,h,hr=>by
  simp only[extC]at h
  split at h
  ·rename_i v ys hp
   split at h
   ·rename_i d' hd
    cases h
    obtain⟨a,r,rfl,h1,h2⟩:=zgr (M' :=M1) (fun _=>t.fz) hp hr
    obtain⟨i1,i2⟩:=qcn t hd h2
    exact⟨RelC_cons.2 ⟨a,r,rfl,h1,i1⟩,i2⟩
   ·cases h
  ·cases h
 | .const _::cs,acc,rest,[],vs,d,h,hr=>by simp[extC]at h
 | .sl _ _ _::cs,acc,rest,[],vs,d,h,hr=>by simp[extC]at h
 | .ptr _ _::cs,acc,rest,[],vs,d,h,hr=>by simp[extC]at h
 | .fnp _ _::cs,acc,rest,[],vs,d,h,hr=>by simp[extC]at h
 |c::cs,acc,rest,x::xs,vs,d,h,hr=>by
  obtain⟨u,r,rfl,hx,hr'⟩:=RelC_cons.1 hr
  cases c with
  |hole ty=>
   simp only[extC]at h
   split at h
   ·rename_i v ys hp
    split at h
    ·rename_i d' hd
     cases h
     obtain⟨a,r',e,h1,h2⟩:=zgr (M' :=M1) (fun _=>t.fz) hp hr
     obtain⟨i1,i2⟩:=qcn t hd h2
     exact⟨RelC_cons.2 ⟨a,r',e,h1,i1⟩,i2⟩
    ·cases h
   ·cases h
  |const k=>
   simp only[extC]at h
   split at h
   ·rename_i hs
    obtain⟨i1,i2⟩:=qcn t h hr'
    have:∃v,u=[v]:=by
     have hl:=q1n hx
     have:qfc x=1:=by
      cases x<;>first|rfl|(exfalso;cases k<;>simp[zuf]at hs)
     rw[this]at hl
     exact List.length_eq_one_iff.1 hl
    obtain⟨v,rfl⟩:=this
    exact⟨RelC_cons.2 ⟨[v],r,rfl,z4t hs hx,i1⟩,i2⟩
   ·cases h
  |sl b sz cc=>
   simp only[extC,yl,decide_eq_true_eq]at h
   split at h
   ·rename_i hs
    obtain⟨i1,i2⟩:=qcn t h hr'
    have:∃v,u=[v]:=by
     have hl:=q1n hx
     have:qfc x=1:=by
      have:=hs.1
      unfold slOk at this
      split at this<;>first|rfl|(cases this)
     rw[this]at hl
     exact List.length_eq_one_iff.1 hl
    obtain⟨v,rfl⟩:=this
    exact⟨RelC_cons.2 ⟨[v],r,rfl,z8c t hs.1 hs.2 hx,i1⟩,i2⟩
   ·cases h
  |fnp f ps=>
   simp only[extC]at h
   split at h
   ·rename_i f' caps
    split at h
    ·rename_i hs
     obtain⟨rfl,hs⟩:=hs
     obtain⟨i1,i2⟩:=qcn t h hr'
     have hx2:∃v,u=[v]:=by
      have hl:=q1n hx
      exact List.length_eq_one_iff.1 hl
     obtain⟨v,rfl⟩:=hx2
     exact⟨RelC_cons.2 ⟨[v],r,rfl,j0n t hs hx,i1⟩,i2⟩
    ·cases h
   ·cases h
  |ptr b wd=>
   simp only[extC]at h
   split at h
   ·rename_i hs
    obtain⟨i1,i2⟩:=qcn t h hr'
    have:∃v,u=[v]:=by
     have hl:=q1n hx
     have:qfc x=1:=by
      have:=hs
      unfold j4t at this
      split at this<;>first|rfl|(cases this)
     rw[this]at hl
     exact List.length_eq_one_iff.1 hl
    obtain⟨v,rfl⟩:=this
    exact⟨RelC_cons.2 ⟨[v],r,rfl,qrp t hs hx,i1⟩,i2⟩
   ·cases h
theorem qk9{M:List Place}{st:St}{B:Base}{w:World}{a:Array Value}{acts:List Act}{M1:List Place}{st1:St}(t:Told M st B w a acts M1 st1):∀{cs:List CI} {acc:List Ty} {rest:D acc} {xs:List AV} {vs:List Value} {d:D (tysC cs acc)},
  extV st acts cs acc rest xs=some d→RelL M xs vs→RelL M1 (bldC st1.heap cs acc d).1 vs∧(bldC st1.heap cs acc d).2=rest
 |[],acc,rest,xs,vs,d,h,hr=>by
  cases xs with
  |nil=>
   simp only[extV,yf]at h
   subst h
   exact⟨by simpa[bldC,RelL_nil]using hr,rfl⟩
  |cons _ _=>simp[extV]at h
 |c::cs,acc,rest,[],vs,d,h,hr=>by cases c<;>simp[extV]at h
 |c::cs,acc,rest,x::xs,vs,d,h,hr=>by
  obtain⟨v,r,rfl,hx,hr'⟩:=RelL_cons.1 hr
  cases c with
  |hole ty=>
   simp only[extV]at h
   split at h
   ·rename_i y d' hv hd
    cases h
    obtain⟨i1,i2⟩:=qk9 t hd hr'
    exact⟨RelL_cons.2 ⟨v,r,rfl,getC_rel (fun _=>t.fz) hv hx,i1⟩,i2⟩
   ·cases h
  |const k=>
   simp only[extV]at h
   split at h
   ·rename_i hs
    obtain⟨i1,i2⟩:=qk9 t h hr'
    exact⟨RelL_cons.2 ⟨v,r,rfl,z4t hs hx,i1⟩,i2⟩
   ·cases h
  |sl b sz cc=>
   simp only[extV,yl,decide_eq_true_eq]at h
   split at h
   ·rename_i hs
    obtain⟨i1,i2⟩:=qk9 t h hr'
    exact⟨RelL_cons.2 ⟨v,r,rfl,z8c t hs.1 hs.2 hx,i1⟩,i2⟩
   ·cases h
  |ptr b wd=>
   simp only[extV]at h
   split at h
   ·rename_i hs
    obtain⟨i1,i2⟩:=qk9 t h hr'
    exact⟨RelL_cons.2 ⟨v,r,rfl,qrp t hs hx,i1⟩,i2⟩
   ·cases h
  |fnp f ps=>
   simp only[extV]at h
   split at h
   ·rename_i f' caps
    split at h
    ·rename_i hs
     obtain⟨rfl,hs⟩:=hs
     obtain⟨i1,i2⟩:=qk9 t h hr'
     exact⟨RelL_cons.2 ⟨v,r,rfl,j0n t hs hx,i1⟩,i2⟩
    ·cases h
   ·cases h
theorem Told.add{M:List Place}{st:St}{B:Base}{w:World}{a:Array Value}{acts:List Act}{M1:List Place}{st1:St}(t:Told M st B w a acts M1 st1)(hH:RelH M st.heap B w){ac:Act}{pl:Place}{o:AObj}(hok:qm8 M1 o pl B w)(hown:o.own=ac.own)
  (hid:∀b,ac.id=some b→fresh acts ac.own b=true∧∃o' p,st.heap[b]? =some (some o')∧M[b]? =some p∧pl.nil=p.nil∧pl.blk=p.blk∧(ac.own=true→o'.own=true)∧(ac.whole=true→pl=p)) (hpin:∀k,o.pin=some k→B.pin k pl)
  (hnone:j0m M ac pl) (hrow:ac.row=true→jbf o.c=true) {ts:List AV} (hts:RelT (M1++[pl]) ts a):
  Told M st B w a (acts++[ac]) (M1++[pl]) ⟨ts,st1.heap++[some o]⟩:=by
 have hlen:=t.len
 have hlen1:=t.heap.len
 have hvis:pl.nil=false→B.vis pl.blk:=by
  intro hn
  cases hab:ac.id with
  |none=>
   obtain⟨ob,h⟩:=((hnone.1 hab).2 hn).2
   exact(hH.fz _ _ h).2.1
  |some b2=>
   obtain⟨_,o2,q2,ho2,hq2,hn2,hb2,_⟩:=hid b2 hab
   rw[hb2]
   exact hH.vis b2 o2 q2 ho2 hq2 (by rw[←hn2];exact hn)
 have hz1:∀k ob,pl.fz k=some ob→FzAt M1 k ob:=fun k ob h=>t.fz k ob (hnone.2 k ob h)
 refine⟨hts,t.heap.addS hok hpin hvis (fun i oi pi hi hpi hor hni hnp=> ?_) hz1 (fun how hn=> ?_),by simp[hlen],fun i ac' hac=> ?_,fun k ob h=>(t.fz k ob h).left _,fun k ob h=>t.zf k ob (FzAt.snocS hz1 h)⟩
 ·
  have hi1:i<acts.length:=by rw[hlen];exact(List.getElem?_eq_some_iff.1 hpi).1
  obtain⟨p1,hp1,hid1,hnone1,hown1,_⟩:=t.act i acts[i] (yj hi1)
  rw[hpi]at hp1
  cases hp1
  have hoi:=hown1 oi hi
  cases hai:(acts[i]).id with
  |none=>
   obtain⟨q1,ob,q2⟩:=(hnone1.1 hai).2 hni
   rw[q1]at hoi
   cases hab:ac.id with
   |none=>
    have:=((hnone.1 hab).2 hnp).1
    rcases hor with h|h
    ·rw[hoi]at h;cases h
    ·rw[hown,this]at h;cases h
   |some b2=>
    obtain⟨_,o2,q2',ho2,hq2,hn2,hb2,hw2,_⟩:=hid b2 hab
    rcases hor with h|h
    ·rw[hoi]at h;cases h
    ·intro e
     exact(hH.fo b2 o2 q2' ho2 hq2 (hw2 (by rw[←hown];exact h)) (by rw[←hn2];exact hnp)).2 ob (by rw[←hb2,←e];exact q2)
  |some b1=>
   obtain⟨o1,q1,ho1,hq1,hn1,hb1,hw1,_⟩:=hid1 b1 hai
   cases hab:ac.id with
   |none=>
    obtain⟨q1,ob,q2⟩:=(hnone.1 hab).2 hnp
    rcases hor with h|h
    ·intro e
     exact(hH.fo b1 o1 _ ho1 hq1 (hw1 (by rw[←hoi];exact h)) (by rw[←hn1];exact hni)).2 ob (by rw[←hb1,e];exact q2)
    ·rw[hown,q1]at h;cases h
   |some b2=>
    obtain⟨hf,o2,q2,ho2,hq2,hn2,hb2,hw2,_⟩:=hid b2 hab
    rw[hb1,hb2]
    have hne:b1≠b2:=by
     intro e
     subst e
     have:=List.all_eq_true.1 hf acts[i] (List.getElem_mem hi1)
     simp only[hai,beq_self_eq_true,Bool.not_true,Bool.false_or,Bool.not_eq_true',Bool.or_eq_false_iff]at this
     rcases hor with h|h
     ·rw[hoi]at h;rw[this.2]at h;cases h
     ·rw[hown]at h;rw[this.1]at h;cases h
    rcases hor with h|h
    ·exact hH.sep b1 b2 o1 o2 q1 q2 ho1 ho2 hq1 hq2 hne (hw1 (by rw[←hoi];exact h)) (by rw[←hn1];exact hni) (by rw[←hn2];exact hnp)
    ·exact fun e=>hH.sep b2 b1 o2 o1 q2 q1 ho2 ho1 hq2 hq1 (fun e=>hne e.symm) (hw2 (by rw[←hown];exact h)) (by rw[←hn2];exact hnp) (by rw[←hn1];exact hni) e.symm
 ·cases hab:ac.id with
  |none=>
   have:=((hnone.1 hab).2 hn).1
   rw[hown,this]at how
   cases how
  |some b2=>
   obtain⟨_,o2,q2,ho2,hq2,hn2,hb2,hw2,_⟩:=hid b2 hab
   obtain⟨f1,f2⟩:=hH.fo b2 o2 q2 ho2 hq2 (hw2 (by rw[←hown];exact how)) (by rw[←hn2];exact hn)
   rw[hb2]
   exact⟨f1,fun ob h=>f2 ob (t.zf _ _ h)⟩
 ·rw[List.getElem?_append]at hac
  split at hac
  ·rename_i hlt
   obtain⟨p1,hp1,h1,h2,h3,h4⟩:=t.act i ac' hac
   refine⟨p1,by rw[yg (by omega)];exact hp1,h1,h2,fun oi hoi=> ?_,fun hr=> ?_⟩
   ·rw[yg (by omega)]at hoi
    exact h3 oi hoi
   ·obtain⟨c',o',pn',ho',hc'⟩:=h4 hr
    exact⟨c',o',pn',by rw[yg (by omega)];exact ho',hc'⟩
  ·rename_i hge
   have h0:i-acts.length=0:=by
    rcases Nat.eq_zero_or_pos (i-acts.length)with h|h
    ·exact h
    ·rw[w9 (by simp;omega)]at hac;cases hac
   rw[h0]at hac
   simp at hac
   subst hac
   have hi:i=M1.length:=by omega
   subst hi
   have hlast:(st1.heap++[some o])[M1.length]? =some (some o):=by rw[←hlen1];simp
   refine⟨pl,by simp,fun b hb=>(hid b hb).2,hnone,fun oi hoi=> ?_,fun hr=> ?_⟩
   ·rw[hlast]at hoi
    cases hoi
    exact hown
   ·exact⟨o.c,o.own,o.pin,hlast,hrow hr⟩
theorem qwk{M:List Place}{H:Heap}{B:Base}{w:World}(hH:RelH M H B w){chk:Bool}(hB:chk=false→∀k pl,B.pin k pl){pin:Option Nat}{o:AObj}{b:Nat}{p:Place}(ho:H[b]? =some (some o))(hp:M[b]? =some p){whole:Bool}(h:qvi chk pin o.pin whole=true){pl:Place}(hw:whole=true→pl=p):
  ∀k,pin=some k→B.pin k pl:=by
 rintro k rfl
 simp only[qvi,yl,Bool.or_eq_true,Bool.not_eq_true',decide_eq_true_eq]at h
 rcases h with⟨h1,h2|h2⟩
 ·exact hB h2 k pl
 ·rw[hw h1]
  exact hH.pin b o p k ho hp h2
theorem zbo{M:List Place}:∀{cs:List AV} {vs:List Value} {j:Nat} {x:AV},RelL M cs vs→cellOf.cellAt1 cs j=some x→∃us,RelX M x us
 |[],_,_,_,_,h=>by simp[cellOf.cellAt1]at h
 |c::cs,vs,0,x,hr,h=>by
  obtain⟨a,t,rfl,hx,_⟩:=RelL_cons.1 hr
  simp[cellOf.cellAt1]at h
  subst h
  exact⟨[a],hx⟩
 |c::cs,vs,j+1,x,hr,h=>by
  obtain⟨a,t,rfl,_,hr'⟩:=RelL_cons.1 hr
  exact zbo hr' (by simpa[cellOf.cellAt1]using h)
theorem z4u{M:List Place}{st:St}{B:Base}{w:World}{a:Array Value}(ht:RelT M st.tmps a)(hH:RelH M st.heap B w):∀{p:Src} {x:AV},qvh st p=some x→∃vs,RelX M x vs
 | .same _,x,h=>by simp[qvh]at h
 | .slot t,x,h=>by
  simp only[qvh,yf]at h
  subst h
  exact⟨_,ht.2 t⟩
 | .cell p j,x,h=>by
  simp only[qvh]at h
  split at h
  ·split at h
   ·rename_i cs o pn hob
    obtain⟨pl,_,hok⟩:=hH.obj _ _ hob
    have:∃vs,RelC M cs vs:=by
     rcases hok with⟨_,_,n3⟩|⟨_,cs',el,fz,_,h2,h3,h4,_⟩
     ·exact⟨_,n3⟩
     ·exact⟨_,h4⟩
    obtain⟨vs,hvs⟩:=this
    obtain⟨v,_,hv⟩:=qck hvs h
    exact⟨[v],hv⟩
   ·cases h
  ·cases h
 | .cap p j,x,h=>by
  simp only[qvh]at h
  split at h
  ·rename_i f caps hp
   obtain⟨vs,hvs⟩:=z4u ht hH hp
   simp only[RelX]at hvs
   obtain⟨x',y,_,_,h2⟩:=hvs
   exact zbo h2 h
  ·cases h
 | .part p j,x,h=>by
  simp only[qvh]at h
  split at h
  ·rename_i cs hp
   obtain⟨vs,hvs⟩:=z4u ht hH hp
   obtain⟨us,_,h2⟩:=RelX_agg.1 hvs
   obtain⟨v,_,hv⟩:=qck h2 h
   exact⟨[v],hv⟩
  ·cases h
theorem j0o{M:List Place}{st:St}{B:Base}{w:World}{a:Array Value}(ht:RelT M st.tmps a)(hH:RelH M st.heap B w){chk:Bool}(hB:chk=false→∀k pl,B.pin k pl){acts:List Act}{M1:List Place}{st1:St}(t:Told M st B w a acts M1 st1){k:IntKind}{sz:Nat}{src:Src}{own:Bool}{pin:Option Nat}{ac:Act}{l:LI}
  (h:zhp st chk k sz src own pin=some (ac,l)) (hs:1≤sz) (hf:qrn acts own ac=true):
  ∃pl,Told M st B w a (acts++[ac]) (M1++[pl]) ⟨z1f st1.tmps src st1.heap.length l.length sz own,st1.heap++[some ⟨.row k l,own,pin⟩]⟩:=by
 have hE:∀pl,Ext M1 (M1++[pl]):=fun pl=>Ext.snoc M1 _
 have slice:∀(x:AV) (v:Value),RelV M x v→j7a st chk k sz own pin (some x)=some (ac,l)→
   ∃pl,qm8 M1 ⟨.row k l,own,pin⟩ pl B w∧ac.own=own∧ac.row=true∧(∀k,pin=some k→B.pin k pl)∧
    (∀b,ac.id=some b→∃o' p,st.heap[b]? =some (some o')∧M[b]? =some p∧pl.nil=p.nil∧pl.blk=p.blk∧(ac.own=true→o'.own=true)∧(ac.whole=true→pl=p))∧
    j0m M ac pl∧RelV (M1++[pl]) (.sl st1.heap.length 0 (div1 l.length sz) sz (if own then .own else .whole)) v:=by
  intro x v hx hq
  unfold j7a at hq
  split at hq
  ·rename_i hxn
   cases hxn
   split at hq
   case isFalse=>cases hq
   rename_i hpk
   cases hq
   have hv:v= .slice none 0 0:=by simpa[RelV,RelX]using hx
   subst hv
   refine⟨⟨true,0,0,0,0,noFz⟩,.inl ⟨rfl,rfl,by simp[RelO]⟩,rfl,rfl,?_,fun b hb=>(by cases hb),⟨fun _=>⟨fun _=>rfl,fun h=>by cases h⟩,fun k ob h=>by cases h⟩,?_⟩
   ·rintro k' rfl
    simp only[qvi,yl,Bool.or_eq_true,Bool.not_eq_true',decide_eq_true_eq]at hpk
    rcases hpk with⟨_,h2|h2⟩
    ·exact hB h2 _ _
    ·cases h2
   rw[qro (n:=([]:LI).length) (len:=0) (by simp) hs]
   simp only[RelV,RelX]
   refine⟨⟨true,0,0,0,0,noFz⟩,none,0,by rw[t.heap.len];simp,rfl,by simp,wa _,fun _=>⟨fun _=>rfl,rfl⟩,fun h=>(by cases h),fun hf=>(by cases own<;>simp at hf),fun _=>⟨trivial,rfl,by simp,by simp⟩,fun _=>⟨trivial,by simp⟩,by rw[has_iff];simp[loB,hiB]⟩
  ·rename_i b off len s c hxs
   cases hxs
   split at hq
   ·rename_i hcond
    obtain⟨rfl,hco⟩:=hcond
    split at hq
    ·rename_i oc o op hob
     split at hq
     ·rename_i hoo
      obtain⟨hoo,hpk⟩:=hoo
      split at hq
      ·rename_i k' l' hwc
       split at hq
       ·rename_i hk
        subst hk
        cases hq
        obtain⟨us,hus,lus⟩:=qp3 hH hx hwc (fun _ _ _ _ _ e=>by cases e;rfl)
        obtain⟨pl0,hpl0,hok0⟩:=hH.obj b _ hob
        have hx0:=hx
        simp only[RelV,RelX]at hx0
        obtain⟨pl,A,cap,hpl,hv,hb,hcap,hnil,hnn,hfull,hown,hwhole,hhas⟩:=hx0
        rw[hpl0]at hpl
        cases hpl
        have hv:v= .slice A len cap:=by simpa using hv
        have hlus:=lus.1
        simp only[qj2]at hlus
        have hll:l.length=len*s:=by have:=congrArg ya hus.1;simp at this;omega
        have hdiv:=qro hll hs
        rw[hdiv]
        have hcells:pl0.nil=false→∃cs el fz,w.heap[pl0.blk]? =some (.cells cs el fz)∧cs.size=pl0.size∧pl0.off+pl0.n≤pl0.size∧us=(cs.toList.drop (pl0.off+off)).take (len*s)∧(o=true→fz=(0,0)∧pl0.off=0∧B.w pl0.blk):=by
         intro hn
         rcases hok0 with⟨n1,_⟩|⟨_,cs,el,fz,g1,g2,g3,g4,g5⟩
         ·rw[hn]at n1;cases n1
         ·refine⟨cs,el,fz,g1,g2,g3,?_,g5⟩
          obtain⟨_,A2,cap2,hv2,_,hm⟩:=lus
          simp only[qj2]at hv2 hm
          by_cases hz:len*s=0
          ·rw[hz]at hlus⊢
           have:us=[]:=List.eq_nil_of_length_eq_zero hlus
           rw[this];simp
          ·rcases hm with hm|⟨blk,o2,cs2,el2,fz2,e,hg2,hle2,hus2⟩
           ·exact absurd hm hz
           ·have hl0:0<len:=by
             rcases Nat.eq_zero_or_pos len with h0|h0
             ·rw[h0]at hz;simp at hz
             ·exact h0
            have hA:=(hnn hn).2 (.inl hl0)
            rw[hv]at hv2
            injection hv2 with e1
            rw[←e1,hA]at e
            injection e with e
            injection e with e2 e3
            rw[←e2,g1]at hg2
            cases hg2
            rw[hus2,←e3]
        cases hw:qfd c with
        |true=>
         have h0:off=0∧len*s=pl0.n:=by
          cases c<;>simp[qfd]at hw
          ·exact⟨(hown rfl).1,(hown rfl).2.2.1⟩
          ·exact hwhole rfl
         obtain⟨rfl,h0⟩:=h0
         refine⟨pl0,?_,rfl,rfl,qwk hH hB hob hpl0 hpk (fun _=>rfl),fun b' hb' =>(by cases hb';exact⟨_,pl0,hob,hpl0,rfl,rfl,hoo,fun _=>rfl⟩),⟨fun h=>(by cases h),fun k ob h=>⟨b,pl0,hpl0,h⟩⟩,?_⟩
         ·cases hn:pl0.nil with
          |true=>
           have h1:=(hnil hn).2
           have:l=[]:=List.eq_nil_of_length_eq_zero (by rw[hll];have h3:len=0:=(by omega);simp[h3])
           subst this
           refine .inl ⟨hn,?_,by simp[RelO]⟩
           rcases hok0 with⟨_,n2,_⟩|⟨n1,_⟩
           ·exact n2
           ·rw[hn]at n1;cases n1
          |false=>
           obtain⟨cs,el,fz,g1,g2,g3,g4,g5⟩:=hcells hn
           refine .inr ⟨hn,cs,el,fz,g1,g2,g3,?_,fun ho=>g5 (hoo ho)⟩
           rw[←h0]
           simp only[Nat.add_zero]at g4
           rw[←g4]
           exact hus
         ·simp only[RelV,RelX]
          refine⟨pl0,A,cap,by rw[t.heap.len];simp,by rw[hv],by rw[Nat.zero_add];exact Nat.le_of_eq h0,hcap,fun hn=>⟨fun hf=>(hnil hn).1 (hco (by cases own with|true=>rfl|false=>simp at hf)),(hnil hn).2⟩,fun hn=>⟨(hnn hn).1,fun hq=> ?_⟩,fun hf=>(by cases own<;>simp at hf),fun hf=> ?_,fun _=>⟨trivial,h0⟩,hhas⟩
          ·rcases hq with hq|hq
           ·exact(hnn hn).2 (.inl hq)
           ·have:own=true:=by cases own with|true=>rfl|false=>simp at hq
            exact(hnn hn).2 (.inr (hco this))
          ·have:own=true:=by cases own with|true=>rfl|false=>simp at hf
           exact⟨trivial,(hown (hco this)).2⟩
        |false=>
         have hno:own=false:=by
          cases own with
          |false=>rfl
          |true=>have:=hco rfl;subst this;simp[qfd]at hw
         subst hno
         refine⟨⟨pl0.nil,pl0.blk,pl0.off+off,len*s,pl0.size,noFz⟩,?_,rfl,rfl,qwk hH hB hob hpl0 (whole:=qfd c) hpk (fun h=>by rw[hw]at h;cases h),fun b' hb' =>(by cases hb';exact⟨_,pl0,hob,hpl0,rfl,rfl,hoo,fun h=>(by cases h)⟩),⟨fun h=>(by cases h),fun k ob h=>by cases h⟩,?_⟩
         ·cases hn:pl0.nil with
          |true=>
           have h1:=(hnil hn).2
           have hl0:len=0:=by omega
           have:l=[]:=List.eq_nil_of_length_eq_zero (by rw[hll];simp[hl0])
           subst this
           exact .inl ⟨rfl,by simp[hl0],by simp[RelO]⟩
          |false=>
           obtain⟨cs,el,fz,g1,g2,g3,g4,g5⟩:=hcells hn
           refine .inr ⟨rfl,cs,el,fz,g1,g2,by simp only;omega,?_,fun ho=>(by cases ho)⟩
           simp only
           rw[←g4]
           exact hus
         ·simp only[RelV,RelX]
          refine⟨⟨pl0.nil,pl0.blk,pl0.off+off,len*s,pl0.size,noFz⟩,A,cap,by rw[t.heap.len];simp,by rw[hv],by simp,hcap,fun hn=>⟨fun hf=>(by simp at hf),(hnil hn).2⟩,fun hn=>⟨(hnn hn).1,fun hq=> ?_⟩,fun hf=>(by simp at hf),fun hf=>(by simp at hf),fun _=>⟨trivial,rfl⟩,hhas⟩
          rcases hq with hq|hq
          ·simpa using(hnn hn).2 (.inl hq)
          ·simp at hq
       ·cases hq
      ·cases hq
     ·cases hq
    ·cases hq
   ·cases hq
  ·rename_i k' s' l' hxs
   cases hxs
   split at hq
   ·rename_i hcond
    obtain⟨rfl,rfl,rfl,rfl⟩:=hcond
    cases hq
    simp only[RelV,RelX]at hx
    obtain⟨v',e,A,len,cap,rfl,h1,h2,h3,h4,h5⟩:=hx
    simp only[List.cons.injEq,and_true]at e
    subst e
    rw[qro h2 hs]
    rcases h5 with h5|⟨blk,off,cs,el,fz,rfl,h6,h7,h8⟩
    ·have hl0:len=0:=by omega
     subst h5
     subst hl0
     have:l=[]:=List.eq_nil_of_length_eq_zero (by rw[h2];simp)
     subst this
     refine⟨⟨true,0,0,0,0,noFz⟩,.inl ⟨rfl,rfl,by simp[RelO]⟩,rfl,rfl,fun k h=>(by cases h),fun b hb=>(by cases hb),⟨fun _=>⟨fun _=>rfl,fun h=>by cases h⟩,fun k ob h=>by cases h⟩,?_⟩
     simp only[RelV,RelX]
     exact⟨⟨true,0,0,0,0,noFz⟩,A,0,by rw[t.heap.len];simp,rfl,by simp,h1,fun _=>⟨fun hf=>(by cases hf),rfl⟩,fun h=>(by cases h),fun hf=>(by cases hf),fun hf=>(by cases hf),fun _=>⟨trivial,by simp⟩,h3⟩
    ·refine⟨⟨false,blk,off,len*s',cs.size,noFz⟩,.inr ⟨rfl,cs,el,fz,(hH.fz _ _ h6).1,rfl,h7,⟨h8,h4⟩,fun h=>(by cases h)⟩,rfl,rfl,fun k h=>(by cases h),fun b hb=>(by cases hb),⟨fun _=>⟨fun h=>(by cases h),fun _=>⟨rfl,_,h6⟩⟩,fun k ob h=>by cases h⟩,?_⟩
     simp only[RelV,RelX]
     exact⟨⟨false,blk,off,len*s',cs.size,noFz⟩,_,cap,by rw[t.heap.len];simp,rfl,by simp,h1,fun h=>(by cases h),fun _=>⟨by simp,fun _=>by simp⟩,fun hf=>(by cases hf),fun hf=>(by cases hf),fun _=>⟨trivial,rfl⟩,h3⟩
   ·cases hq
  ·cases hq
 have put:∀(pl:Place),qm8 M1 ⟨.row k l,own,pin⟩ pl B w→ac.own=own→ac.row=true→(∀k,pin=some k→B.pin k pl)→
   (∀b,ac.id=some b→∃o' p,st.heap[b]? =some (some o')∧M[b]? =some p∧pl.nil=p.nil∧pl.blk=p.blk∧(ac.own=true→o'.own=true)∧(ac.whole=true→pl=p))→
   j0m M ac pl→RelT (M1++[pl]) (z1f st1.tmps src st1.heap.length l.length sz own) a→
   ∃pl,Told M st B w a (acts++[ac]) (M1++[pl]) ⟨z1f st1.tmps src st1.heap.length l.length sz own,st1.heap++[some ⟨.row k l,own,pin⟩]⟩:=by
  intro pl h1 h2 h3 hpin h4 h5 h6
  refine⟨pl,t.add hH h1 h2.symm (fun b hb=>⟨?_,h4 b hb⟩) hpin h5 (fun _=>rfl) h6⟩
  unfold qrn at hf
  rw[hb]at hf
  rw[h2]
  exact hf
 have keepT:∀(pl:Place) (t' :Nat) (x:AV),RelV (M1++[pl]) x (a.getD t' undef)→RelT (M1++[pl]) (st1.tmps.set t' x) a:=by
  intro pl t' x hx
  have h1:=(t.tmps.mono (hE pl)).put hx t'
  have h2:=congrArg Act.tmps (qj3 (a:=⟨a,[]⟩) (d:=t'))
  simp only[Go.Act.put]at h2
  rw[h2]at h1
  exact h1
 have deep:∀(src' :Src),(∀(x:AV),z1f st1.tmps src' st1.heap.length l.length sz own=st1.tmps)→(zhp st chk k sz src' own pin=j7a st chk k sz own pin (qvh st src'))→zhp st chk k sz src' own pin=some (ac,l)→
   ∃pl,Told M st B w a (acts++[ac]) (M1++[pl]) ⟨z1f st1.tmps src' st1.heap.length l.length sz own,st1.heap++[some ⟨.row k l,own,pin⟩]⟩:=by
  intro src' hset hrow hq
  rw[hrow]at hq
  cases hx:qvh st src' with
  |none=>rw[hx]at hq;cases hq
  |some x=>
   rw[hx]at hq
   obtain⟨vs,hvs⟩:=z4u ht hH hx
   have:∃v,vs=[v]:=by
    have hl:=q1n hvs
    have:qfc x=1:=by
     cases x<;>first|rfl|(cases hq)
    rw[this]at hl
    exact List.length_eq_one_iff.1 hl
   obtain⟨v,rfl⟩:=this
   obtain⟨pl,h1,h2,h3,hpn,h4,h5,h6⟩:=slice _ _ hvs hq
   rw[hset (.undef)]
   have hh:=fun(h7:RelT (M1++[pl]) st1.tmps a)=>(⟨pl,t.add hH h1 h2.symm (fun b hb=>⟨by
    unfold qrn at hf
    rw[hb]at hf
    rw[h2]
    exact hf,h4 b hb⟩) hpn h5 (fun _=>rfl) h7⟩:∃pl,Told M st B w a (acts++[ac]) (M1++[pl]) ⟨st1.tmps,st1.heap++[some ⟨.row k l,own,pin⟩]⟩)
   exact hh (t.tmps.mono (hE pl))
 cases src with
 |same b=>
  simp only[zhp]at h
  split at h
  ·rename_i k' l' o op hob
   split at h
   ·rename_i hc
    obtain⟨rfl,ho,hpk⟩:=hc
    cases h
    obtain⟨pl,hpl,hok⟩:=hH.obj b _ hob
    refine put pl ?_ rfl rfl (qwk hH hB hob hpl hpk (fun _=>rfl)) (fun b' hb' =>(by cases hb';exact⟨_,pl,hob,hpl,rfl,rfl,ho,fun _=>rfl⟩)) ⟨fun h=>(by cases h),fun k ob h=>⟨b,pl,hpl,h⟩⟩ (t.tmps.mono (hE pl))
    rcases hok with⟨n1,n2,n3⟩|⟨n1,cs,el,fz,g1,g2,g3,g4,g5⟩
    ·exact .inl ⟨n1,n2,n3⟩
    ·exact .inr ⟨n1,cs,el,fz,g1,g2,g3,g4,fun h=>g5 (ho h)⟩
   ·cases h
  ·cases h
 |slot t' =>
  simp only[zhp,qvh]at h
  obtain⟨pl,h1,h2,h3,hp,h4,h5,h6⟩:=slice _ _ (ht.2 t') h
  exact put pl h1 h2 h3 hp h4 h5 (keepT pl t' _ h6)
 |cell p j=>exact deep _ (fun _=>rfl) rfl h
 |cap p j=>exact deep _ (fun _=>rfl) rfl h
 |part p j=>exact deep _ (fun _=>rfl) rfl h
theorem zug{M:List Place}{st:St}{B:Base}{w:World}{a:Array Value}(ht:RelT M st.tmps a)(hH:RelH M st.heap B w){chk:Bool}(hB:chk=false→∀k pl,B.pin k pl){acts:List Act}{M1:List Place}{st1:St}(t:Told M st B w a acts M1 st1){e:EK}{src:Src}{own:Bool}{pin:Option Nat}{ac:Act}{l:List e.den}
  (h:z8b st chk e src own pin=some (ac,l)) (hf:qrn acts own ac=true):
  ∃pl,Told M st B w a (acts++[ac]) (M1++[pl]) ⟨z1f st1.tmps src st1.heap.length (mul1 l.length e.w) e.w own,st1.heap++[some ⟨.drow ⟨e,l⟩,own,pin⟩]⟩:=by
 have hE:∀pl,Ext M1 (M1++[pl]):=fun pl=>Ext.snoc M1 _
 have hw:=e.w_pos
 have mono:∀{vs:List Value},RelO M (.drow ⟨e,l⟩) vs→RelO M1 (.drow ⟨e,l⟩) vs:=fun r=>⟨r.1,fun i x hx=>EK.rel_mono t.fz e x _ (r.2 i x hx)⟩
 have monoK:∀{o:Bool} {op:Option Nat} {pl:Place},qm8 M ⟨.drow ⟨e,l⟩,o,op⟩ pl B w→(own=true→o=true)→qm8 M1 ⟨.drow ⟨e,l⟩,own,pin⟩ pl B w:=by
  rintro o op pl (⟨n1,n2,n3⟩|⟨n1,cs,el,fz,g1,g2,g3,g4,g5⟩) ho
  ·exact .inl ⟨n1,n2,mono n3⟩
  ·exact .inr ⟨n1,cs,el,fz,g1,g2,g3,mono g4,fun h=>g5 (ho h)⟩
 have add:∀(pl:Place) (ts:List AV),qm8 M1 ⟨.drow ⟨e,l⟩,own,pin⟩ pl B w→ac.own=own→(∀k,pin=some k→B.pin k pl)→
   (∀b,ac.id=some b→∃o' p,st.heap[b]? =some (some o')∧M[b]? =some p∧pl.nil=p.nil∧pl.blk=p.blk∧(ac.own=true→o'.own=true)∧(ac.whole=true→pl=p))→
   j0m M ac pl→RelT (M1++[pl]) ts a→Told M st B w a (acts++[ac]) (M1++[pl]) ⟨ts,st1.heap++[some ⟨.drow ⟨e,l⟩,own,pin⟩]⟩:=by
  intro pl ts h1 h2 hpin h4 h5 h6
  refine t.add hH h1 h2.symm (fun b hb=>⟨?_,h4 b hb⟩) hpin h5 (fun _=>rfl) h6
  unfold qrn at hf
  rw[hb]at hf
  rw[h2]
  exact hf
 have same:∀(b:Nat) (d:EKs) (o:Bool) (op:Option Nat),st.heap[b]? =some (some ⟨.drow d,o,op⟩)→(own=true→o=true)→qvi chk pin op true=true→j0l e d=some l→ac=⟨some b,true,own,true⟩→
   ∃pl,M[b]? =some pl∧∀ts,RelT (M1++[pl]) ts a→Told M st B w a (acts++[ac]) (M1++[pl]) ⟨ts,st1.heap++[some ⟨.drow ⟨e,l⟩,own,pin⟩]⟩:=by
  rintro b d o op hob ho hpk hce rfl
  have:=zt4 hce
  subst this
  obtain⟨pl,hpl,hok⟩:=hH.obj b _ hob
  exact⟨pl,hpl,fun ts h=>add pl ts (monoK hok ho) rfl (qwk hH hB hob hpl hpk (fun _=>rfl)) (fun b' hb' =>(by cases hb';exact⟨_,pl,hob,hpl,rfl,rfl,ho,fun _=>rfl⟩)) ⟨fun h=>(by cases h),fun k ob h=>⟨b,pl,hpl,h⟩⟩ h⟩
 have val:∀(x:AV) (v:Value),RelV M x v→(match(some x:Option AV)with
   |some .nils=>if qvi chk pin none true=true then some ((⟨none,true,own,true⟩:Act),([]:List e.den))else none
   |some (.sl b _ _ s c)=>if s=e.w∧(own=true→c= .own)∧qfd c=true then
     match st.heap[b]? with
     |some (some ⟨.drow d,o,op⟩)=>if(own=true→o=true)∧qvi chk pin op true=true then(match j0l e d with|some l=>some (⟨some b,true,own,true⟩,l)|none=>none)else none
     |_=>none
    else none
   |_=>none)=some (ac,l)→
   ∃pl,RelV (M1++[pl]) (.sl st1.heap.length 0 (div1 (mul1 l.length e.w) e.w) e.w (if own then .own else .whole)) v∧∀ts,RelT (M1++[pl]) ts a→Told M st B w a (acts++[ac]) (M1++[pl]) ⟨ts,st1.heap++[some ⟨.drow ⟨e,l⟩,own,pin⟩]⟩:=by
  intro x v hx hq
  split at hq
  ·rename_i hxn
   cases hxn
   split at hq
   case isFalse=>cases hq
   rename_i hpk
   cases hq
   have hv:v= .slice none 0 0:=by simpa[RelV,RelX]using hx
   subst hv
   refine⟨⟨true,0,0,0,0,noFz⟩,?_,fun ts h=>add _ ts (.inl ⟨rfl,rfl,by simp[RelO]⟩) rfl ?_ (fun b hb=>(by cases hb)) ⟨fun _=>⟨fun _=>rfl,fun h=>by cases h⟩,fun k ob h=>by cases h⟩ h⟩
   ·rw[qro (n:=mul1 ([]:List e.den).length e.w) (len:=0) (by simp[qb4]) hw]
    simp only[RelV,RelX]
    exact⟨⟨true,0,0,0,0,noFz⟩,none,0,by rw[t.heap.len];simp,rfl,by simp,wa _,fun _=>⟨fun _=>rfl,rfl⟩,fun h=>(by cases h),fun hf=>(by cases own<;>simp at hf),fun _=>⟨trivial,rfl,by simp,by simp⟩,fun _=>⟨trivial,by simp⟩,by rw[has_iff];simp[loB,hiB]⟩
   ·rintro k' rfl
    simp only[qvi,yl,Bool.or_eq_true,Bool.not_eq_true',decide_eq_true_eq]at hpk
    rcases hpk with⟨_,h2|h2⟩
    ·exact hB h2 _ _
    ·cases h2
  ·rename_i b off len s c hxs
   cases hxs
   split at hq
   case isFalse=>cases hq
   rename_i hcond
   obtain⟨rfl,hco,hwh⟩:=hcond
   split at hq
   ·rename_i d o op hob
    split at hq
    case isFalse=>cases hq
    rename_i hoo
    split at hq
    ·rename_i l' hce
     cases hq
     obtain⟨pl,hpl,hadd⟩:=same b d o op hob hoo.1 hoo.2 hce rfl
     refine⟨pl,?_,hadd⟩
     have:=zt4 hce
     subst this
     simp only[RelV,RelX]at hx
     obtain⟨pl',A,cap,hpl',hv,hb,hcap,hnil,hnn,hfull,hown,hwhole,hhas⟩:=hx
     rw[hpl]at hpl'
     cases hpl'
     have h0:off=0∧len*e.w=pl.n:=by
      cases c<;>simp[qfd]at hwh
      ·exact⟨(hown rfl).1,(hown rfl).2.2.1⟩
      ·exact hwhole rfl
     have hlen:l.length=len:=by
      have h1:=j4u hH hob rfl hpl
      unfold zbl at h1
      rw[hob]at h1
      simp only[qb4]at h1
      rw[←h0.2]at h1
      exact Nat.eq_of_mul_eq_mul_right hw h1
     rw[qro (n:=mul1 l.length e.w) (len:=len) (by rw[qb4,hlen]) hw]
     obtain⟨rfl,h0⟩:=h0
     simp only[RelV,RelX]
     refine⟨pl,A,cap,by rw[t.heap.len];simp,hv,hb,hcap,fun hn=>⟨fun hf=>(hnil hn).1 (hco (by cases own with|true=>rfl|false=>simp at hf)),(hnil hn).2⟩,fun hn=>⟨(hnn hn).1,fun hq=> ?_⟩,fun hf=>(by cases own<;>simp at hf),fun hf=> ?_,fun _=>⟨trivial,h0⟩,hhas⟩
     ·rcases hq with hq|hq
      ·exact(hnn hn).2 (.inl hq)
      ·have:own=true:=by cases own with|true=>rfl|false=>simp at hq
       exact(hnn hn).2 (.inr (hco this))
     ·have:own=true:=by cases own with|true=>rfl|false=>simp at hf
      exact⟨trivial,(hown (hco this)).2⟩
    ·cases hq
   ·cases hq
  ·cases hq
 have deep:∀(src' :Src),z1f st1.tmps src' st1.heap.length (mul1 l.length e.w) e.w own=st1.tmps→(∀v,z8b st chk e src' own pin=(match qvh st src' with
   |some .nils=>if qvi chk pin none true=true then some ((⟨none,true,own,true⟩:Act),([]:List e.den))else none
   |some (.sl b _ _ s c)=>if s=e.w∧(own=true→c= .own)∧qfd c=true then
     match st.heap[b]? with
     |some (some ⟨.drow d,o,op⟩)=>if(own=true→o=true)∧qvi chk pin op true=true then(match j0l e d with|some l=>some (⟨some b,true,own,true⟩,l)|none=>none)else none
     |_=>none
    else none
   |_=>none)∨v=())→z8b st chk e src' own pin=some (ac,l)→
   ∃pl,Told M st B w a (acts++[ac]) (M1++[pl]) ⟨z1f st1.tmps src' st1.heap.length (mul1 l.length e.w) e.w own,st1.heap++[some ⟨.drow ⟨e,l⟩,own,pin⟩]⟩:=by
  intro src' hset _ hq
  have hq' :(match qvh st src' with
   |some .nils=>if qvi chk pin none true=true then some ((⟨none,true,own,true⟩:Act),([]:List e.den))else none
   |some (.sl b _ _ s c)=>if s=e.w∧(own=true→c= .own)∧qfd c=true then
     match st.heap[b]? with
     |some (some ⟨.drow d,o,op⟩)=>if(own=true→o=true)∧qvi chk pin op true=true then(match j0l e d with|some l=>some (⟨some b,true,own,true⟩,l)|none=>none)else none
     |_=>none
    else none
   |_=>none)=some (ac,l)∨∃b,src' = .same b:=by
   cases src' with
   |same b=>exact .inr ⟨b,rfl⟩
   |_=>exact .inl hq
  rcases hq' with hq' |⟨b,rfl⟩
  ·cases hx:qvh st src' with
   |none=>rw[hx]at hq';cases hq'
   |some x=>
    rw[hx]at hq'
    obtain⟨vs,hvs⟩:=z4u ht hH hx
    have:∃v,vs=[v]:=by
     have hl:=q1n hvs
     have:qfc x=1:=by
      cases x<;>first|rfl|(cases hq')
     rw[this]at hl
     exact List.length_eq_one_iff.1 hl
    obtain⟨v,rfl⟩:=this
    obtain⟨pl,_,h2⟩:=val _ _ hvs hq'
    rw[hset]
    exact⟨pl,h2 _ (t.tmps.mono (hE pl))⟩
  ·simp only[z8b]at hq
   split at hq
   ·rename_i d o op hob
    split at hq
    case isFalse=>cases hq
    rename_i hoo
    split at hq
    ·rename_i l' hce
     cases hq
     obtain⟨pl,_,hadd⟩:=same b d o op hob hoo.1 hoo.2 hce rfl
     exact⟨pl,hadd _ (t.tmps.mono (hE pl))⟩
    ·cases hq
   ·cases hq
 cases src with
 |same b=>exact deep _ rfl (fun _=> .inr rfl) h
 |slot t' =>
  obtain⟨pl,h1,h2⟩:=val _ _ (ht.2 t') h
  refine⟨pl,h2 _ ?_⟩
  have g1:=(t.tmps.mono (hE pl)).put h1 t'
  have g2:=congrArg Act.tmps (qj3 (a:=⟨a,[]⟩) (d:=t'))
  simp only[Go.Act.put]at g2
  rw[g2]at g1
  exact g1
 |cell p j=>exact deep _ rfl (fun _=> .inr rfl) h
 |cap p j=>exact deep _ rfl (fun _=> .inr rfl) h
 |part p j=>exact deep _ rfl (fun _=> .inr rfl) h
theorem q5u{M:List Place}{st:St}{B:Base}{w:World}{a:Array Value}(ht:RelT M st.tmps a)(hH:RelH M st.heap B w){chk:Bool}(hB:chk=false→∀k pl,B.pin k pl):∀{its:List Item} {acc:List Ty} {rest:D acc} {acts:List Act} {d:D (tysI its acc)} {M1:List Place} {st1:St},
  Told M st B w a acts M1 st1→extI st chk its acc rest acts=some d→(∃M2,Told M st B w a (acts++qkk st chk its) M2 (bldI its acc d st1).1)∧(bldI its acc d st1).2=rest
 |[],acc,rest,acts,d,M1,st1,t,h=>by
  simp only[extI,yf]at h
  subst h
  exact⟨⟨M1,by simpa[qkk,bldI]using t⟩,rfl⟩
 |it::its,acc,rest,acts,d,M1,st1,t,h=>by
  have keepT:∀(t' :Nat) (x:AV),RelV M1 x (a.getD t' undef)→Told M st B w a acts M1 ⟨st1.tmps.set t' x,st1.heap⟩:=by
   intro t' x hx
   have h1:=t.tmps.put hx t'
   have h2:=congrArg Go.Act.tmps (qj3 (a:=⟨a,[]⟩) (d:=t'))
   simp only[Go.Act.put]at h2
   rw[h2]at h1
   exact⟨h1,t.heap,t.len,t.act,t.fz,t.zf⟩
  cases it with
  |row k sz src own pin=>
   simp only[extI]at h
   split at h
   ·rename_i ac l hr
    split at h
    ·rename_i hc
     obtain⟨hs,hf⟩:=hc
     split at h
     ·rename_i d' hd
      cases h
      obtain⟨pl,t2⟩:=j0o ht hH hB t hr hs hf
      have r:=q5u (its:=its) ht hH hB t2 hd
      simp only[bldI,qkk,hr]
      rw[List.append_assoc]at r
      exact r
     ·cases h
    ·cases h
   ·cases h
  |drow e src own pin=>
   simp only[extI]at h
   split at h
   ·rename_i ac l hr
    split at h
    ·rename_i hf
     split at h
     ·rename_i d' hd
      cases h
      obtain⟨pl,t2⟩:=zug ht hH hB t hr hf
      have r:=q5u (its:=its) ht hH hB t2 hd
      simp only[bldI,qkk,hr]
      rw[List.append_assoc]at r
      exact r
     ·cases h
    ·cases h
   ·cases h
  |segs cs src own pin=>
   simp only[extI]at h
   split at h
   ·rename_i b hb
    split at h
    ·rename_i xs o op hob
     split at h
     ·rename_i hc
      obtain⟨ho,hf,hpk⟩:=hc
      split at h
      ·rename_i d' hd
       obtain⟨pl,hpl,hok⟩:=hH.obj b _ hob
       have hE:Ext M1 (M1++[pl]):=Ext.snoc M1 _
       have hvs:∃vs,RelC M xs vs∧(∀xs',RelC M1 xs' vs→qm8 M1 ⟨.segs xs',own,pin⟩ pl B w):=by
        rcases hok with⟨n1,n2,n3⟩|⟨n1,cs',el,fz,g1,g2,g3,g4,g5⟩
        ·exact⟨_,n3,fun xs' hx' => .inl ⟨n1,n2,hx'⟩⟩
        ·exact⟨_,g4,fun xs' hx' => .inr ⟨n1,cs',el,fz,g1,g2,g3,hx',fun h=>g5 (ho h)⟩⟩
       obtain⟨vs,hv1,hv2⟩:=hvs
       obtain⟨c1,c2⟩:=qcn t h hv1
       have t2:=t.add hH (ac:=⟨some b,true,own,false⟩) (hv2 _ c1) rfl (fun b' hb' =>(by cases hb';exact⟨hf,_,pl,hob,hpl,rfl,rfl,ho,fun _=>rfl⟩)) (qwk hH hB hob hpl hpk (fun _=>rfl)) ⟨fun h=>(by cases h),fun k ob h=>⟨b,pl,hpl,h⟩⟩ (fun h=>(by cases h)) (t.tmps.mono hE)
       have r:=q5u (its:=its) ht hH hB t2 hd
       simp only[bldI,qkk,hb]
       rw[c2]
       rw[List.append_assoc]at r
       exact r
      ·cases h
     ·cases h
    ·cases h
   ·cases h
  |drop=>
   simp only[extI]at h
   have hE:Ext M1 (M1++[⟨true,0,0,0,0,noFz⟩]):=Ext.snoc M1 _
   have t2:Told M st B w a (acts++[⟨none,false,false,false⟩]) (M1++[⟨true,0,0,0,0,noFz⟩]) ⟨st1.tmps,st1.heap++[none]⟩:=by
    have hlen:=t.len
    have hlen1:=t.heap.len
    refine⟨t.tmps.mono hE,t.heap.addNone _ (fun k ob h=>by cases h),by simp[hlen],fun i ac' hac=> ?_,fun k ob h=>(t.fz k ob h).left _,fun k ob h=>t.zf k ob (FzAt.snoc rfl h)⟩
    rw[List.getElem?_append]at hac
    split at hac
    ·obtain⟨p1,hp1,h1,h2,h3,h4⟩:=t.act i ac' hac
     refine⟨p1,by rw[yg (by omega)];exact hp1,h1,h2,fun oi hoi=> ?_,fun hr=> ?_⟩
     ·rw[yg (by omega)]at hoi
      exact h3 oi hoi
     ·obtain⟨c',o',pn',ho',hc'⟩:=h4 hr
      exact⟨c',o',pn',by rw[yg (by omega)];exact ho',hc'⟩
    ·have h0:i-acts.length=0:=by
      rcases Nat.eq_zero_or_pos (i-acts.length)with h|h
      ·exact h
      ·rw[w9 (by simp;omega)]at hac;cases hac
     rw[h0]at hac
     simp at hac
     subst hac
     have hi:i=M1.length:=by omega
     subst hi
     refine⟨_,by simp,fun b hb=>(by cases hb),⟨fun _=>⟨fun _=>rfl,fun h=>by cases h⟩,fun k ob h=>by cases h⟩,fun oi hoi=> ?_,fun hr=>(by cases hr)⟩
     rw[←hlen1]at hoi
     simp at hoi
   have r:=q5u (its:=its) ht hH hB t2 h
   simp only[bldI,qkk]
   rw[List.append_assoc]at r
   exact r
  |slot t' ty=>
   simp only[extI]at h
   split at h
   ·rename_i v d' hv hd
    cases h
    have r:=q5u (its:=its) ht hH hB (keepT t' _ (zue (fun _=>t.fz) hv (ht.2 t'))) hd
    simp only[bldI,qkk]
    exact r
   ·cases h
  |const t' x=>
   simp only[extI]at h
   split at h
   ·rename_i hs
    have r:=q5u (its:=its) ht hH hB (keepT t' _ (z4t hs (ht.2 t'))) h
    simp only[bldI,qkk]
    exact r
   ·cases h
  |sl t' b sz c=>
   simp only[extI,yl,decide_eq_true_eq]at h
   split at h
   ·rename_i hs
    have r:=q5u (its:=its) ht hH hB (keepT t' _ (z8c t hs.1 hs.2 (ht.2 t'))) h
    simp only[bldI,qkk]
    exact r
   ·cases h
  |ptr t' b wd=>
   simp only[extI]at h
   split at h
   ·rename_i hs
    have r:=q5u (its:=its) ht hH hB (keepT t' _ (qrp t hs (ht.2 t'))) h
    simp only[bldI,qkk]
    exact r
   ·cases h
  |cells t' cs=>
   simp only[extI]at h
   split at h
   ·rename_i xs hf
    split at h
    ·rename_i d' hd
     have hx:=ht.2 t'
     rw[hf]at hx
     obtain⟨us,hv,hc⟩:=RelX_agg.1 hx
     obtain⟨c1,c2⟩:=qcn t h hc
     have hx2:RelV M1 (.agg (bldC st1.heap cs (tysI its acc) d).1) (a.getD t' undef):=RelX_agg.2 ⟨us,hv,c1⟩
     have r:=q5u (its:=its) ht hH hB (keepT t' _ hx2) hd
     simp only[bldI,qkk]
     rw[c2]
     exact r
    ·cases h
   ·cases h
  |fn t' f cs=>
   simp only[extI]at h
   split at h
   ·rename_i f' caps hf
    split at h
    ·rename_i hff
     subst hff
     split at h
     ·rename_i d' hd
      have hx:=ht.2 t'
      rw[hf]at hx
      simp only[RelV,RelX]at hx
      obtain⟨x,y,hv,h1,h2⟩:=hx
      obtain⟨c1,c2⟩:=qk9 t h h2
      have hx2:RelV M1 (.fn f' [] (bldC st1.heap cs (tysI its acc) d).1) (a.getD t' undef):=by
       simp only[RelV,RelX]
       exact⟨x,y,hv,by rw[RelL_nil]at h1⊢;exact h1,c1⟩
      have r:=q5u (its:=its) ht hH hB (keepT t' _ hx2) hd
      simp only[bldI,qkk]
      rw[c2]
      exact r
     ·cases h
    ·cases h
   ·cases h
end Go.AE

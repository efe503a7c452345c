/- A part of the proof, put together of my texts: Fw30, Fw31, Fw32, Fw33, Fw34, A02defs, A08defs, C11defs, E13defs, E13zdefs, D17defs, D17certs, PureLib, Pure17a, Pure02, PureBits, Pure03, PureTab, Pure09, Pure09b, Pure09c, Pure10, Pure11, Pure11c, Pure11d, Pure13c, Pure13z, Pure17b, Pure17c. -/
import Derived.OpenShut
import Derived.Deep.Slices
import Derived.Test.YtcjfigcbloploaaRows
import Derived.KernelRfl
import Derived.Test.YtcjfigcbloploaaRowLayoutWholeP3
set_option linter.unusedVariables false
set_option linter.unusedSimpArgs false
namespace Go.AE
open Go Go.RowKit
theorem RelH.carryT {M : List Place} {H : Heap} {B B' : Base} {w w' : World} (r : RelH M H B w)
    (hpl : ∀ (i : Nat) (o : AObj) (pl : Place), H[i]? = some (some o) → M[i]? = some pl → pl.nil = false → w'.heap[pl.blk]? = w.heap[pl.blk]? ∧ B'.vis pl.blk ∧ (o.own = true → ¬ B'.f pl.blk ∧ (B.w pl.blk → B'.w pl.blk)))
    (hz : ∀ k ob, FzAt M k ob → w'.heap[k]? = some ob ∧ B'.vis k ∧ (B'.w k ∨ B'.f k))
    (hp : ∀ k pl, B.pin k pl → B'.pin k pl)
    (hb : ∀ k, w'.heap.size ≤ k → B'.w k ∧ B'.vis k) (hbf : ∀ k, w'.heap.size ≤ k → ¬ B'.f k) : RelH M H B' w' := by
  refine ⟨r.len, hb, fun i o ho => ?_, r.sep, fun i o pl k h1 h2 h3 => hp _ _ (r.pin i o pl k h1 h2 h3), fun i o pl h1 h2 h3 => (hpl i o pl h1 h2 h3).2.1, hz,
    fun i o pl h1 h2 h3 h4 => ⟨((hpl i o pl h1 h2 h4).2.2 h3).1, (r.fo i o pl h1 h2 h3 h4).2⟩, hbf⟩
  obtain ⟨pl, hpl', hok⟩ := r.obj i o ho
  refine ⟨pl, hpl', ?_⟩
  rcases hok with hok | ⟨g1, cs, el, fz, g2, g3, g4, g5, g6⟩
  · exact .inl hok
  · have h := hpl i o pl ho hpl' g1
    exact .inr ⟨g1, cs, el, fz, h.1.trans g2, g3, g4, g5, fun e => ⟨(g6 e).1, (g6 e).2.1, (h.2.2 e).2 (g6 e).2.2⟩⟩
theorem RelH.lt {M : List Place} {H : Heap} {B : Base} {w : World} (r : RelH M H B w) {i : Nat} {o : AObj} {pl : Place} (ho : H[i]? = some (some o)) (hp : M[i]? = some pl) (hn : pl.nil = false) : pl.blk < w.heap.size := by
  obtain ⟨ob, h, _⟩ := r.cells ho hp hn
  exact (Array.getElem?_eq_some_iff.1 h).1
mutual
def noFzV : AV → Bool
  | .fsl _ _ _ | .dsl _ | .fref _ _ _ _ | .dref _ _ | .mapc _ => false
  | .fn _ x y => noFzL x && noFzL y
  | .agg cs => noFzL cs
  | .tup xs => noFzL xs
  | .iface _ x => noFzV x
  | _ => true
def noFzL : List AV → Bool
  | [] => true
  | x :: r => noFzV x && noFzL r
end
def LikeM (M M' : List Place) : Prop := ∀ (b : Nat) (pl : Place), M[b]? = some pl → ∃ z, M'[b]? = some { pl with fz := z }
mutual
theorem RelX.like {M M' : List Place} (h : LikeM M M') : ∀ (x : AV) (a : List Value), noFzV x = true → RelX M x a → RelX M' x a
  | .undef, a, _, r => by simpa only [RelX] using r
  | .int k lit x, a, _, r => by simpa only [RelX] using r
  | .bool lit x, a, _, r => by simpa only [RelX] using r
  | .str s, a, _, r => by simpa only [RelX] using r
  | .nilp, a, _, r => by simpa only [RelX] using r
  | .ptr b base dyn room span, a, _, r => by
    simp only [RelX] at r ⊢
    obtain ⟨pl, e, r⟩ := r
    obtain ⟨z, hz⟩ := h _ _ e
    exact ⟨_, hz, r⟩
  | .rptr b off room, a, _, r => by
    simp only [RelX] at r ⊢
    obtain ⟨pl, e, r⟩ := r
    obtain ⟨z, hz⟩ := h _ _ e
    exact ⟨_, hz, r⟩
  | .sl b off len sz c, a, _, r => by
    simp only [RelX] at r ⊢
    obtain ⟨pl, A, cap, e, r⟩ := r
    obtain ⟨z, hz⟩ := h _ _ e
    exact ⟨_, A, cap, hz, r⟩
  | .nils, a, _, r => by simpa only [RelX] using r
  | .fn f first cap, a, n, r => by
    simp only [RelX] at r ⊢
    simp only [noFzV, Bool.and_eq_true] at n
    obtain ⟨x, y, e, r1, r2⟩ := r
    exact ⟨x, y, e, RelL.like h _ _ n.1 r1, RelL.like h _ _ n.2 r2⟩
  | .nilf, a, _, r => by simpa only [RelX] using r
  | .agg cs, a, n, r => by
    simp only [RelX] at r ⊢
    simp only [noFzV] at n
    obtain ⟨x, e, r1⟩ := r
    exact ⟨x, e, RelC.like h _ _ n r1⟩
  | .is k n l, a, _, r => by simpa only [RelX] using r
  | .tup xs, a, n, r => by
    simp only [RelX] at r ⊢
    simp only [noFzV] at n
    obtain ⟨x, e, r1⟩ := r
    exact ⟨x, e, RelL.like h _ _ n r1⟩
  | .iface t x, a, n, r => by
    simp only [RelX] at r ⊢
    simp only [noFzV] at n
    obtain ⟨y, e, r1⟩ := r
    exact ⟨y, e, RelX.like h _ _ n r1⟩
  | .niface, a, _, r => by simpa only [RelX] using r
  | .fsl k sz l, a, n, r => by cases n
  | .dsl d, a, n, r => by cases n
  | .fref k l off room, a, n, r => by cases n
  | .dref d off, a, n, r => by cases n
  | .mapc i, a, n, r => by cases n
  | .mp b, a, _, r => by simpa only [RelX] using r
  | .itr b, a, _, r => by simpa only [RelX] using r
  | .yld l, a, _, r => by simpa only [RelX] using r
theorem RelL.like {M M' : List Place} (h : LikeM M M') : ∀ (xs : List AV) (a : List Value), noFzL xs = true → RelL M xs a → RelL M' xs a
  | [], a, _, r => by simpa only [RelL] using r
  | x :: xs, a, n, r => by
    simp only [RelL] at r ⊢
    simp only [noFzL, Bool.and_eq_true] at n
    obtain ⟨v, t, e, r1, r2⟩ := r
    exact ⟨v, t, e, RelX.like h _ _ n.1 r1, RelL.like h _ _ n.2 r2⟩
theorem RelC.like {M M' : List Place} (h : LikeM M M') : ∀ (xs : List AV) (a : List Value), noFzL xs = true → RelC M xs a → RelC M' xs a
  | [], a, _, r => by simpa only [RelC] using r
  | x :: xs, a, n, r => by
    simp only [RelC] at r ⊢
    simp only [noFzL, Bool.and_eq_true] at n
    obtain ⟨v, t, e, r1, r2⟩ := r
    exact ⟨v, t, e, RelX.like h _ _ n.1 r1, RelC.like h _ _ n.2 r2⟩
end
def noFzC : Cont → Bool
  | .segs cs => noFzL cs
  | .row _ _ => true
  | .drow _ => false
def itSt (st : St) : Bool := noFzL st.tmps && st.heap.all fun x => match x with
  | some o => o.own && noFzC o.c
  | none => true
theorem itSt_at {st : St} (h : itSt st = true) {i : Nat} {o : AObj} (ho : st.heap[i]? = some (some o)) : o.own = true ∧ noFzC o.c = true := by
  simp only [itSt, Bool.and_eq_true] at h
  have := List.all_eq_true.1 h.2 (some o) (List.mem_of_getElem? ho)
  simpa using this
def dropFz (M : List Place) : List Place := M.map fun p => { p with fz := noFz }
theorem dropFz_at {M : List Place} {b : Nat} {pl : Place} (h : (dropFz M)[b]? = some pl) : ∃ p, M[b]? = some p ∧ pl = { p with fz := noFz } := by
  simp only [dropFz, List.getElem?_map, Option.map_eq_some_iff] at h
  obtain ⟨p, h1, h2⟩ := h
  exact ⟨p, h1, h2.symm⟩
theorem dropFz_like (M : List Place) : LikeM M (dropFz M) := fun b pl h => ⟨noFz, by simp [dropFz, h]⟩
theorem dropFz_no {M : List Place} {k : Nat} {ob : Obj} : ¬ FzAt (dropFz M) k ob := fun ⟨i, pl, h, e⟩ => by
  obtain ⟨p, _, rfl⟩ := dropFz_at h
  cases e
theorem it_base {M : List Place} {st : St} {B : Base} {w : World} {O : Nat → Prop} (r : RelH M st.heap B w) (hs : itSt st = true)
    (hO : ∀ (i : Nat) (o : AObj) (pl : Place), st.heap[i]? = some (some o) → M[i]? = some pl → pl.nil = false → O pl.blk) : RelH (dropFz M) st.heap (itB O w) w := by
  refine ⟨by rw [r.len]; simp [dropFz], fun k hk => ⟨.inr hk, trivial⟩, fun i o ho => ?_, fun i j oi oj pi pj h1 h2 h3 h4 h5 h6 h7 h8 => ?_, fun _ _ _ _ _ _ _ => trivial, fun _ _ _ _ _ _ => trivial, fun k ob h => absurd h dropFz_no, fun _ _ _ _ _ _ _ => ⟨id, fun ob h => dropFz_no h⟩, fun _ _ h => h⟩
  · obtain ⟨pl, hpl, hok⟩ := r.obj i o ho
    refine ⟨{ pl with fz := noFz }, by simp [dropFz, hpl], ?_⟩
    have hc := (itSt_at hs ho).2
    have rel : ∀ l, RelO M o.c l → RelO (dropFz M) o.c l := fun l h => by
      cases hcc : o.c with
      | segs cs =>
        rw [hcc] at h hc
        exact RelC.like (dropFz_like M) _ _ hc h
      | row k l' =>
        rw [hcc] at h
        exact h
      | drow d =>
        rw [hcc] at hc
        cases hc
    rcases hok with ⟨g1, g2, g3⟩ | ⟨g1, cs, el, fz, g2, g3, g4, g5, g6⟩
    · exact .inl ⟨g1, g2, rel _ g3⟩
    · exact .inr ⟨g1, cs, el, fz, g2, g3, g4, rel _ g5, fun e => ⟨(g6 e).1, (g6 e).2.1, .inl (hO i o pl ho hpl g1)⟩⟩
  · obtain ⟨p, hp, rfl⟩ := dropFz_at h3
    obtain ⟨q, hq, rfl⟩ := dropFz_at h4
    exact r.sep i j oi oj p q h1 h2 hp hq h5 h6 h7 h8
def ItSpec {α : Type} (P : Program) (gf : FuncId) (encs : α → Array Value) (ok : α → Prop) (n : Nat) (ins : List Item) (F : D (tysI ins []) → Option (List α)) : Prop :=
  ∀ d xs, F d = some xs → ∀ (M : List Place) (w : World) (O0 : Nat → Prop) (lb : Array Value), RelL M (bldS n ins d).tmps lb.toList → RelH M (bldS n ins d).heap (itB O0 w) w → (∀ k, O0 k → k < w.heap.size) → ItAt P gf lb encs ok xs O0 w
def RB (B : Base) (n0 : Nat) (O : Nat → Prop) : Base := ⟨fun k => B.w k ∧ ¬ O k ∧ ¬ (n0 ≤ k ∧ k < n0 + 2), fun k => B.vis k ∧ ¬ O k, B.pin, B.f, []⟩
section
variable {α DI DX : Type}
def runL (step : α → DI → Option (DI ⊕ DX)) : List α → DI → Option (DI ⊕ DX)
  | [], d => some (.inl d)
  | x :: r, d => match step x d with
    | some (.inl d') => runL step r d'
    | some (.inr e) => some (.inr e)
    | none => none
end
def setPs (ts : List AV) : List Nat → List AV → List AV
  | p :: ps, x :: xs => setPs (ts.set p x) ps xs
  | _, _ => ts
theorem setPs_rel {M : List Place} : ∀ {ps : List Nat} {xs : List AV} {vs : List Value} {ts : List AV} {a : Array Value}, RelL M xs vs → RelT M ts a → RelT M (setPs ts ps xs) ((ps.zip vs).foldl (fun t (p, v) => t.setIfInBounds p v) a)
  | [], xs, vs, ts, a, _, h => by cases xs <;> exact h
  | p :: ps, [], vs, ts, a, hx, h => by
    rw [RelL_nil] at hx
    subst hx
    exact h
  | p :: ps, x :: xs, vs, ts, a, hx, h => by
    obtain ⟨v, r, rfl, h1, h2⟩ := RelL_cons.1 hx
    simp only [List.zip_cons_cons, List.foldl_cons, setPs]
    exact setPs_rel h2 (h.put h1 p)
def kR (nt : Nat) (its outX : List Item) (eX : Exit) (ts : List AV) : Exit → St → Option (D (tysI its []) ⊕ D (tysI outX [])) := fun e st => match e with
  | .normal => (extS nt its ⟨ts, st.heap⟩).bind fun d => some (.inl d)
  | .exit j => (match eX with
    | .exit i => if j = i then (extS nt outX ⟨ts, st.heap⟩).bind fun d => some (.inr d) else none
    | _ => none)
  | .ret => (match eX with
    | .ret => (extS nt outX ⟨ts, st.heap⟩).bind fun d => some (.inr d)
    | _ => none)
  | _ => none
def evRound (P : Program) (cal : Cals) (qcal : QCals) (nt : Nat) (its outX : List Item) (eX : Exit) (ps : List Nat) (assign body : Code) (xs : List AV) (d : D (tysI its [])) : Option (D (tysI its []) ⊕ D (tysI outX [])) :=
  evCode P (cal _) (qcal _) (fun _ => none) assign ⟨setPs (bldS nt its d).tmps ps xs, (bldS nt its d).heap⟩ fun e st => match e with
    | .normal => evCode P (cal _) (qcal _) (fun _ => none) body st (kR nt its outX eX (bldS nt its d).tmps)
    | _ => none
def exitC : Exit → Code
  | .exit i => .exit i
  | .ret => .ret
  | _ => .skip
theorem RB_round {M : List Place} {H : Heap} {B : Base} {n0 : Nat} {O : Nat → Prop} {W W' : World} (r : RelH M H (RB B n0 O) W) (hO : ∀ k, O k → k < W.heap.size) (hn : n0 + 2 ≤ W.heap.size) (hB : Beneath (OB O) W W') : RelH M H (RB B n0 (grow O W W')) W' := by
  have hz := hB.size
  refine r.carryT (fun i o pl h1 h2 h3 => ?_) (fun k ob h => ?_) (fun _ _ h => h) (fun k hk => ?_) (fun k hk => r.bf k (by omega))
  · have hlt := r.lt h1 h2 h3
    have hv := r.vis i o pl h1 h2 h3
    refine ⟨hB.block _ hlt hv.2, ⟨hv.1, fun h => h.elim hv.2 fun h => by omega⟩, fun ho => ⟨(r.fo i o pl h1 h2 ho h3).1, fun h => ⟨h.1, fun g => g.elim hv.2 fun h => by omega, h.2.2⟩⟩⟩
  · obtain ⟨h1, h2, h3⟩ := r.fz k ob h
    have hlt := (Array.getElem?_eq_some_iff.1 h1).1
    exact ⟨(hB.block _ hlt h2.2).trans h1, ⟨h2.1, fun h => h.elim h2.2 fun h => by omega⟩, h3.imp (fun h => ⟨h.1, fun g => g.elim h2.2 fun h => by omega, h.2.2⟩) id⟩
  · have hb := r.base k (by omega)
    have hno : ¬ grow O W W' k := fun h => h.elim (fun h => by have := hO k h; omega) fun h => by omega
    exact ⟨⟨hb.1.1, hno, by omega⟩, hb.2.1, hno⟩
theorem RB_back {M : List Place} {H : Heap} {B : Base} {n0 : Nat} {O : Nat → Prop} {W : World} (r : RelH M H (RB B n0 O) W) : RelH M H B W :=
  r.rebase (fun _ h => h.1) (fun _ h => h.1) (fun _ _ h => h) (fun _ _ _ h => h.imp (fun h => h.1) id) (fun _ h => h)
theorem RB_put {M : List Place} {H : Heap} {B : Base} {n0 : Nat} {O : Nat → Prop} {W : World} (r : RelH M H (RB B n0 O) W) (hf : ∀ k, n0 ≤ k → ¬ B.f k) {l : Nat} {o o' : Obj} (h1 : n0 ≤ l) (h2 : l < n0 + 2) (hl : W.heap[l]? = some o) (hc : o.isCells = false) : RelH M H (RB B n0 O) (W.putObj l o') :=
  r.putOther hl hc (fun ob h => (r.fz l ob h).2.2.elim (fun h => h.2.2 ⟨h1, h2⟩) (hf l h1)) o'
theorem Beneath.put {B : Base} {w0 W : World} (h : Beneath B w0 W) {l : Nat} (hl : w0.heap.size ≤ l) (o : Obj) : Beneath B w0 (W.putObj l o) :=
  ⟨h.os, h.tape, h.output, by rw [World.putObj_size]; exact h.size, fun k hk hn => (World.putObj_heap_other (by omega)).trans (h.block k hk hn)⟩
theorem Beneath.rb {B : Base} {n0 : Nat} {O : Nat → Prop} {W W' : World} (h : Beneath (RB B n0 O) W W') : Beneath B W W' := ⟨h.os, h.tape, h.output, h.size, fun k hk hn => h.block k hk fun h => hn h.1⟩
theorem Beneath.ob {B : Base} {O : Nat → Prop} {W W' : World} (h : Beneath (OB O) W W') (hO : ∀ k, O k → B.w k) : Beneath B W W' := ⟨h.os, h.tape, h.output, h.size, fun k hk hn => h.block k hk fun h => hn (hO k h)⟩
theorem Beneath.kept {B : Base} {n0 : Nat} {O : Nat → Prop} {W W' : World} (h : Beneath (RB B n0 O) W W') (hn : n0 + 2 ≤ W.heap.size) : Kept n0 W W' := ⟨h.size, fun k h1 h2 => h.block k (by omega) fun h => h.2.2 ⟨h1, h2⟩⟩
theorem Beneath.sameO {B : Base} {n0 : Nat} {O : Nat → Prop} {W W' : World} (h : Beneath (RB B n0 O) W W') (hO : ∀ k, O k → k < W.heap.size) : Same O W W' := fun k hk => h.block k (hO k hk) fun h => h.2.1 hk
structure Between (B : Base) (w0 : World) (n0 : Nat) (O : Nat → Prop) (W : World) : Prop where
  n : n0 + 2 ≤ W.heap.size
  o : ∀ k, O k → k < W.heap.size ∧ B.w k
  below : Beneath B w0 W
theorem Between.step {B : Base} {w0 : World} {n0 : Nat} {O : Nat → Prop} {W W' : World} (h : Between B w0 n0 O W) (hb : ∀ k, W.heap.size ≤ k → B.w k) (hB : Beneath (OB O) W W') : Between B w0 n0 (grow O W W') W' :=
  ⟨Nat.le_trans h.n hB.size, fun k hk => hk.elim (fun g => ⟨Nat.lt_of_lt_of_le (h.o k g).1 hB.size, (h.o k g).2⟩) fun g => ⟨g.2, hb k g.1⟩, h.below.trans (hB.ob fun k hk => (h.o k hk).2)⟩
theorem Between.put {B : Base} {w0 : World} {n0 : Nat} {O : Nat → Prop} {W : World} (h : Between B w0 n0 O W) (hn : w0.heap.size ≤ n0) {l : Nat} (hl : n0 ≤ l) (o : Obj) : Between B w0 n0 O (W.putObj l o) :=
  ⟨by rw [World.putObj_size]; exact h.n, fun k hk => by rw [World.putObj_size]; exact h.o k hk, h.below.put (by omega) o⟩
theorem Between.round {B : Base} {w0 : World} {n0 : Nat} {O : Nat → Prop} {W W' : World} (h : Between B w0 n0 O W) (hB : Beneath (RB B n0 O) W W') : Between B w0 n0 O W' :=
  ⟨Nat.le_trans h.n hB.size, fun k hk => ⟨Nat.lt_of_lt_of_le (h.o k hk).1 hB.size, (h.o k hk).2⟩, h.below.trans hB.rb⟩
theorem range_sound {P : Program} (hP : Callable P) {cal : Cals} (hcal : ∀ σ f, CalAt P f (cal σ f)) {qcal : QCals} (hq : ∀ σ f, QCalAt P f (qcal σ f)) {α : Type} {g : Operand} {ps : Array Tmp} {assign body : Code} {Q : Exit → Go.Act → World → Prop} {a : Go.Act} {w : World}
    {gf : Nat} {lb : Array Value} (hg : a.eval g = .func (.func gf) #[] lb) (eg : ∀ args w, (callFunc gf args).run P w = .ok (.enter gf args) w)
    {encs : α → Array Value} {enc : α → List AV} {ok : α → Prop} {xs : List α} {O0 : Nat → Prop} (hit : ItAt P gf lb encs ok xs O0 w) (hps : ∀ x, (encs x).size = ps.size) (henc : ∀ x, ok x → ∀ M, RelL M (enc x) (encs x).toList)
    (hca : calm assign = true) (hcb : calm body = true) {nt : Nat} {its outX : List Item} {eX : Exit} {step : α → D (tysI its []) → Option (D (tysI its []) ⊕ D (tysI outX []))}
    (hs : ∀ x d, evRound P cal qcal nt its outX eX ps.toList assign body (enc x) d = step x d) {B : Base} {w0 : World} (hw0 : w0.heap.size ≤ w.heap.size) (hbf : ∀ k, w.heap.size ≤ k → ¬ B.f k)
    {d : D (tysI its [])} {r : D (tysI its []) ⊕ D (tysI outX [])} (hr : runL step xs d = some r)
    (hO : ∀ k, O0 k → k < w.heap.size ∧ B.w k) {M : List Place} (hT : RelT M (bldS nt its d).tmps a.tmps)
    (hH : ∀ W, Below w.heap.size w W → w.heap.size + 2 ≤ W.heap.size → RelH M (bldS nt its d).heap (RB B w.heap.size O0) W) (hB : Beneath B w0 w)
    (hdone : ∀ d' M' W, r = .inl d' → RelT M' (bldS nt its d').tmps a.tmps → RelH M' (bldS nt its d').heap B W → Beneath B w0 W → W.heap[w.heap.size]? = some (.deferred (some [])) → (∀ ob, ¬ FzAt M' w.heap.size ob) → Q .normal { a with defers := mark w.heap.size :: a.defers } W)
    (hstop : ∀ d' M' W, r = .inr d' → RelT M' (bldS nt outX d').tmps a.tmps → RelH M' (bldS nt outX d').heap B W → Beneath B w0 W → W.heap[w.heap.size]? = some (.deferred (some [])) → (∀ ob, ¬ FzAt M' w.heap.size ob) → (exitC eX).wpIn Fence.wide 0 P Q { a with defers := mark w.heap.size :: a.defers } W) :
    (Code.rangeFunc g ps assign body).wpIn Fence.wide 0 P Q a w := by
  have noFzD : ∀ {M' : List Place} {H : Heap} {O : Nat → Prop} {W : World}, RelH M' H (RB B w.heap.size O) W → ∀ ob, ¬ FzAt M' w.heap.size ob := fun r ob h => (r.fz _ ob h).2.2.elim (fun h => h.2.2 ⟨by omega, by omega⟩) (hbf _ (Nat.le_refl _))
  refine wpIn_range hg eg hit (fun k hk => (hO k hk).1) hps
    (fun pre O W => Between B w0 w.heap.size O W ∧ ∃ d' M' rest, xs = pre ++ rest ∧ runL step rest d' = some r ∧ RelT M' (bldS nt its d').tmps a.tmps ∧ RelH M' (bldS nt its d').heap (RB B w.heap.size O) W)
    (fun c pre O W => c = exitC eX ∧ Between B w0 w.heap.size O W ∧ ∃ d' M', r = .inr d' ∧ RelT M' (bldS nt outX d').tmps a.tmps ∧ RelH M' (bldS nt outX d').heap (RB B w.heap.size O) W)
    ?_ ?_ ?_ ?_ ?_
    (fun pre x O a' W => Between B w0 w.heap.size O W ∧ ∃ d' M' st' rest y, xs = pre ++ x :: rest ∧ evCode P (cal _) (qcal _) (fun _ => none) body st' (kR nt its outX eX (bldS nt its d').tmps) = some y ∧ (∀ d2, y = .inl d2 → runL step rest d2 = some r) ∧ (∀ d2, y = .inr d2 → r = .inr d2) ∧
      RelT M' (bldS nt its d').tmps a.tmps ∧ RelT M' st'.tmps a'.tmps ∧ a'.defers = [] ∧ RelH M' st'.heap (RB B w.heap.size O) W)
    ?_ ?_ ?_ ?_ ?_
  · rintro pre O W W' ⟨hb, d', M', rest, h1, h2, h3, h4⟩ hB
    exact ⟨hb.step (fun k hk => (h4.base k hk).1.1) hB, d', M', rest, h1, h2, h3, RB_round h4 (fun k hk => (hb.o k hk).1) hb.n hB⟩
  · rintro c pre O W W' ⟨hc, hb, d', M', h1, h3, h4⟩ hB
    exact ⟨hc, hb.step (fun k hk => (h4.base k hk).1.1) hB, d', M', h1, h3, RB_round h4 (fun k hk => (hb.o k hk).1) hb.n hB⟩
  · rintro pre O W l o o' ⟨hb, d', M', rest, h1, h2, h3, h4⟩ g1 g2 g3 g4
    exact ⟨hb.put hw0 g1 o', d', M', rest, h1, h2, h3, RB_put h4 hbf g1 g2 g3 g4⟩
  · rintro c pre O W l o o' ⟨hc, hb, d', M', h1, h3, h4⟩ g1 g2 g3 g4
    exact ⟨hc, hb.put hw0 g1 o', d', M', h1, h3, RB_put h4 hbf g1 g2 g3 g4⟩
  · intro W hW hn
    exact ⟨⟨hn, fun k hk => ⟨Nat.lt_of_lt_of_le (hO k hk).1 hW.size, (hO k hk).2⟩, hB.trans (Beneath.of hW)⟩, d, M, xs, rfl, hr, hT, hH W hW hn⟩
  · rintro pre x O a' W l o o' ⟨hb, d', M', st', rest, y, h1, h2, h3, h4, h5, h6, h7, h8⟩ g1 g2 g3 g4
    exact ⟨hb.put hw0 g1 o', d', M', st', rest, y, h1, h2, h3, h4, h5, h6, h7, RB_put h8 hbf g1 g2 g3 g4⟩
  · rintro l pre x rest O W hx hok ⟨hb, d', M', rest', h1, h2, h3, h4⟩
    have hrest : rest' = x :: rest := by
      rw [hx] at h1
      exact (List.append_cancel_left h1).symm
    subst hrest
    unfold runL at h2
    have hy : ∃ y, step x d' = some y ∧ (∀ d2, y = .inl d2 → runL step rest d2 = some r) ∧ (∀ d2, y = .inr d2 → r = .inr d2) := by
      cases hst : step x d' with
      | none => rw [hst] at h2; cases h2
      | some y =>
        rw [hst] at h2
        cases y with
        | inl d2 => exact ⟨_, rfl, fun d3 e => (by cases e; exact h2), fun d3 e => (by cases e)⟩
        | inr d2 => exact ⟨_, rfl, fun d3 e => (by cases e), fun d3 e => (by cases e; simpa using h2.symm)⟩
    obtain ⟨y, hy, hy1, hy2⟩ := hy
    rw [← hs] at hy
    have ht1 : RelT M' (setPs (bldS nt its d').tmps ps.toList (enc x)) ((ps.zip (encs x)).foldl (fun t (p, v) => t.setIfInBounds p v) a.tmps) := by
      have h := setPs_rel (ps := ps.toList) (henc x hok M') h3
      rw [← Array.toList_zip, Array.foldl_toList] at h
      exact h
    refine evCode_soundR hP (hcal _) (hq _) assign hca _ _ hy M' _ W _ ⟨ht1, rfl, h4, Beneath.refl _ _⟩ fun e M2 st2 a2 W2 hE hk hr2 => ?_
    cases e <;> simp only [reduceCtorEq] at hk
    exact ⟨hr2.below.kept hb.n, hr2.below.sameO (fun k hk => (hb.o k hk).1), hb.round hr2.below, d', M2, st2, rest, y, hx, hk, hy1, hy2, h3.mono hE, hr2.tmps, hr2.defers, hr2.heap⟩
  · rintro l pre x rest O a' W hx ⟨hb, d', M', st', rest', y, h1, h2, h3, h4, h5, h6, h7, h8⟩
    have hrest : rest' = rest := by
      rw [hx] at h1
      exact (List.cons.inj (List.append_cancel_left h1)).2.symm
    subst hrest
    refine evCode_soundR hP (hcal _) (hq _) body hcb _ _ h2 M' _ W _ ⟨h6, h7, h8, Beneath.refl _ _⟩ fun e M2 st2 a2 W2 hE hk hr2 => ?_
    have hb2 := hb.round hr2.below
    have k2 := hr2.below.kept hb.n
    have s2 := hr2.below.sameO (fun k hk => (hb.o k hk).1)
    have rel2 : Rel M2 ⟨(bldS nt its d').tmps, st2.heap⟩ (RB B w.heap.size O) W { tmps := a.tmps, defers := [] } W2 := ⟨h5.mono hE, rfl, hr2.heap, hr2.below⟩
    have stop : ∀ {c : Code}, c = exitC eX → (extS nt outX ⟨(bldS nt its d').tmps, st2.heap⟩).bind (fun d => (some (.inr d) : Option (D (tysI its []) ⊕ D (tysI outX [])))) = some y → Kept w.heap.size W W2 ∧ Same O W W2 ∧ (c = exitC eX ∧ Between B w0 w.heap.size O W2 ∧ ∃ d' M', r = .inr d' ∧ RelT M' (bldS nt outX d').tmps a.tmps ∧ RelH M' (bldS nt outX d').heap (RB B w.heap.size O) W2) := by
      intro c hc hk
      simp only [Option.bind_eq_some_iff, Option.some.injEq] at hk
      obtain ⟨d2, hd2, rfl⟩ := hk
      obtain ⟨M3, hr3⟩ := extS_rel rel2 hd2
      exact ⟨k2, s2, hc, hb2, d2, M3, h4 _ rfl, hr3.tmps, hr3.heap⟩
    cases e with
    | normal =>
      simp only [kR, Option.bind_eq_some_iff, Option.some.injEq] at hk
      obtain ⟨d2, hd2, rfl⟩ := hk
      obtain ⟨M3, hr3⟩ := extS_rel rel2 hd2
      exact ⟨k2, s2, hb2, d2, M3, rest', by rw [hx]; simp, h3 _ rfl, hr3.tmps, hr3.heap⟩
    | exit j =>
      simp only [kR] at hk
      split at hk
      · split at hk
        · rename_i i hj
          subst hj
          exact stop rfl hk
        · cases hk
      · cases hk
    | ret =>
      simp only [kR] at hk
      split at hk
      · exact stop rfl hk
      · cases hk
    | goto t => simp only [kR] at hk; cases hk
    | panic ch => simp only [kR] at hk; cases hk
    | outgrown => simp only [kR] at hk; cases hk
  · rintro O W ⟨hb, d', M', rest, h1, h2, h3, h4⟩ hD
    have hrest : rest = [] := by
      have := congrArg List.length h1
      simp at this
      exact this
    subst hrest
    simp only [runL, Option.some.injEq] at h2
    exact hdone d' M' W h2.symm h3 (RB_back h4) hb.below hD (noFzD h4)
  · rintro c pre O W _ ⟨rfl, hb, d', M', h1, h3, h4⟩ hD
    exact hstop d' M' W h1 h3 (RB_back h4) hb.below hD (noFzD h4)
end Go.AE
set_option linter.unusedVariables false
set_option linter.unusedSimpArgs false
namespace Go.AE
open Go Go.RowKit
def unseq : Code → List Code
  | .seq x y => unseq x ++ unseq y
  | c => [c]
section
variable {P : Program} {Q : Exit → Go.Act → World → Prop}
def WL (P : Program) (Q : Exit → Go.Act → World → Prop) : List Code → Go.Act → World → Prop
  | [], a, w => Q .normal a w
  | c :: r, a, w => c.wpIn Fence.wide 0 P (Exit.then (WL P Q r) Q) a w
theorem wl_one {c : Code} {r : List Code} {a : Go.Act} {w : World} : ∀ (h : unseq c = [c]) (_ : WL P Q (unseq c ++ r) a w), c.wpIn Fence.wide 0 P (Exit.then (WL P Q r) Q) a w := fun h k => by
  rw [h] at k
  exact k
theorem wl_seq : ∀ (c : Code) (r : List Code) (a : Go.Act) (w : World), WL P Q (unseq c ++ r) a w → c.wpIn Fence.wide 0 P (Exit.then (WL P Q r) Q) a w
  | .seq x y, r, a, w, h => by
    unfold unseq at h
    rw [List.append_assoc] at h
    refine wpIn_seq (wpIn_mono (wl_seq x _ a w h) fun e a' w' h => ?_)
    cases e with
    | normal => exact wl_seq y r a' w' h
    | _ => exact h
  | .skip, r, a, w, h => wl_one (by simp [unseq]) h
  | .region _ _ _, r, a, w, h => wl_one (by simp [unseq]) h
  | .cond _ _ _, r, a, w, h => wl_one (by simp [unseq]) h
  | .block _ _, r, a, w, h => wl_one (by simp [unseq]) h
  | .loop _, r, a, w, h => wl_one (by simp [unseq]) h
  | .exit _, r, a, w, h => wl_one (by simp [unseq]) h
  | .ret, r, a, w, h => wl_one (by simp [unseq]) h
  | .label _, r, a, w, h => wl_one (by simp [unseq]) h
  | .goto _, r, a, w, h => wl_one (by simp [unseq]) h
  | .scope _, r, a, w, h => wl_one (by simp [unseq]) h
  | .rangeFunc _ _ _ _, r, a, w, h => wl_one (by simp [unseq]) h
  | .refuse _, r, a, w, h => wl_one (by simp [unseq]) h
theorem wl_code {c : Code} {a : Go.Act} {w : World} (h : WL P Q (unseq c) a w) : c.wpIn Fence.wide 0 P Q a w := by
  refine wpIn_mono (wl_seq c [] a w (by simpa using h)) fun e a' w' h => ?_
  cases e <;> exact h
end
variable {ρ : Type}
def evL (P : Program) (cal : Cal ρ) (qcal : QCal ρ) : List Code → St → (Exit → St → Option ρ) → Option ρ
  | [], st, K => K .normal st
  | c :: r, st, K => evCode P cal qcal (fun _ => none) c st fun e st' => match e with
    | .normal => evL P cal qcal r st' K
    | e => K e st'
theorem evL_sound {P : Program} (hP : Callable P) {cal : Cal ρ} (hcal : ∀ f, CalAt P f (cal f)) {qcal : QCal ρ} (hq : ∀ f, QCalAt P f (qcal f)) {B : Base} {w0 : World} {r : ρ} {Q : Exit → Go.Act → World → Prop} {more : List Code} :
    ∀ (l : List Code) (st : St) (K : Exit → St → Option ρ), evL P cal qcal l st K = some r → ∀ (M : List Place) (a : Go.Act) (w : World), Rel M st B w0 a w →
      (∀ e M' st' a' w', K e st' = some r → Rel M' st' B w0 a' w' → Exit.then (WL P Q more) Q e a' w') → WL P Q (l ++ more) a w
  | [], st, K, h, M, a, w, hr, hn => hn .normal M st a w h hr
  | c :: l, st, K, h, M, a, w, hr, hn => by
    show c.wpIn Fence.wide 0 P (Exit.then (WL P Q (l ++ more)) Q) a w
    refine wpIn_wide.2 (evCode_sound hP hcal hq c (fun _ _ _ h => by cases h) st _ h M a w _ hr fun e M' st' a' w' (_ : ExtO true M M') hk hr' => ?_)
    cases e with
    | normal => exact evL_sound hP hcal hq l st' K hk M' a' w' hr' hn
    | exit id => exact hn (.exit id) M' st' a' w' hk hr'
    | goto l => exact hn (.goto l) M' st' a' w' hk hr'
    | ret => exact hn .ret M' st' a' w' hk hr'
    | panic ch => exact hn (.panic ch) M' st' a' w' hk hr'
    | outgrown => exact hn .outgrown M' st' a' w' hk hr'
def kEnd (P : Program) (fn : Func) (K : List AV → Heap → Option ρ) : Exit → St → Option ρ := fun e st => match e with
  | .normal | .ret => match aresL P st fn.results.toList with
    | some l => K l st.heap
    | none => none
  | _ => none
def EndR (B : Base) (w0 : World) (K : List AV → Heap → Option ρ) (r : ρ) : Ending → World → Prop := fun e w' =>
  ∃ (rs : Array Value) (l : List AV) (H' : Heap) (M' : List Place), e = .returned (retV rs) ∧ K l H' = some r ∧ RelL M' l rs.toList ∧ RelH M' H' B w' ∧ Beneath B w0 w'
theorem kEnd_end {P : Program} {fn : Func} {K : List AV → Heap → Option ρ} {r : ρ} {e : Exit} {st : St} (h : kEnd P fn K e st = some r) {M : List Place} {B : Base} {w0 : World} {a : Go.Act} {w : World} (hr : Rel M st B.clean w0 a w) :
    bodyPostM Fence.wide 0 P fn (EndR B w0 K r) e a w := by
  have fin : (match aresL P st fn.results.toList with | some l => K l st.heap | none => none) = some r → LeavesInM Fence.wide 0 P fn a.tmps (EndR B w0 K r) a.defers .returning w := by
    intro h
    split at h
    · rename_i l hl
      obtain ⟨rs, h1, h2⟩ := results_run (fn := fn) hr.tmps hr.heap hl
      have hd : a.defers = [] := hr.defers
      rw [hd]
      exact ⟨retV rs, h2, rs, l, st.heap, M, rfl, h, h1, hr.heap.unclean, hr.below.unclean⟩
    · cases h
  cases e <;> simp only [kEnd, reduceCtorEq] at h
  case normal => exact fin h
  case ret => exact fin h
theorem kEnd_marked {P : Program} {fn : Func} {K : List AV → Heap → Option ρ} {r : ρ} {e : Exit} {st : St} (h : kEnd P fn K e st = some r) {M : List Place} {B : Base} {w0 w1 : World} {a : Go.Act} {w : World} {D : Nat} (hr : Rel M st (B.marked D) w1 a w)
    (hD : w1.heap[D]? = some (.deferred (some []))) (hBf : ¬ B.f D) (hD0 : w0.heap.size ≤ D) (hB : Beneath B w0 w1) : bodyPostM Fence.wide 0 P fn (EndR B w0 K r) e a w := by
  have fin : (match aresL P st fn.results.toList with | some l => K l st.heap | none => none) = some r → LeavesInM Fence.wide 0 P fn a.tmps (EndR B w0 K r) a.defers .returning w := by
    intro h
    split at h
    · rename_i l hl
      have hD' := hr.below.mark_kept hD
      have hz' : ∀ ob, ¬ FzAt M D ob := fun ob h => (hr.heap.fz D ob h).2.2.elim (fun h => h.2 rfl) hBf
      have hH2 : RelH M st.heap B (w.putObj D (.deferred none)) := hr.heap.unmarked.putOther hD' rfl hz' _
      obtain ⟨rs, h1, h2⟩ := results_run hr.tmps hH2 hl
      have hB2 : Beneath B w0 (w.putObj D (.deferred none)) := (hB.trans hr.below.unmarked).put hD0 _
      have hde : a.defers = [mark D] := hr.defers
      rw [hde]
      exact leaves_mark hD' h2 ⟨rs, l, _, M, rfl, h, h1, hH2, hB2⟩
    · cases h
  cases e <;> simp only [kEnd, reduceCtorEq] at h
  case normal => exact fin h
  case ret => exact fin h
def killL (H : Heap) (bs : List Nat) : Heap := bs.foldl (fun H b => H.set b none) H
theorem killL_at : ∀ {bs : List Nat} {H : Heap} {i : Nat} {o : AObj}, (killL H bs)[i]? = some (some o) → i ∉ bs ∧ H[i]? = some (some o)
  | [], H, i, o, h => ⟨by simp, h⟩
  | b :: bs, H, i, o, h => by
    obtain ⟨h1, h2⟩ := killL_at (bs := bs) (H := H.set b none) h
    rcases set_case h2 with ⟨_, h3⟩ | ⟨h3, h4⟩
    · cases h3
    · exact ⟨by simp [h1, Ne.symm h3], h4⟩
theorem RelH.killL {M : List Place} {B : Base} {w : World} : ∀ {bs : List Nat} {H : Heap}, RelH M H B w → RelH M (AE.killL H bs) B w
  | [], H, r => r
  | b :: bs, H, r => RelH.killL (bs := bs) (r.kill b)
def itBs (args : List AV) (H : Heap) (ins : List Item) : List Nat := (drop0 :: actsI ⟨args, H⟩ false ins).filterMap fun ac => if ac.own = true then ac.id else none
def evRng {α : Type} (gf g ni : Nat) (insI : List Item) (FI : D (tysI insI []) → Option (List α)) (nt : Nat) (its outX : List Item) (step : α → D (tysI its []) → Option (D (tysI its []) ⊕ D (tysI outX [])))
    (st : St) (Kn : D (tysI its []) → Option ρ) (Kx : D (tysI outX []) → Option ρ) : Option ρ :=
  match st.tmps.getD g .undef with
  | .fn gf' [] caps => if gf' = gf then
      match extA ni insI caps st.heap with
      | some di => (FI di).bind fun xs => (extS nt its ⟨st.tmps, killL st.heap (itBs caps st.heap insI)⟩).bind fun d => (runL step xs d).bind fun r => match r with
        | .inl d => Kn d
        | .inr d => Kx d
      | none => none
    else none
  | _ => none
def evBodyR {α : Type} (P : Program) (cal : Cals) (qcal : QCals) (fn : Func) (l1 l2 : List Code) (out gf g ni : Nat) (insI : List Item) (FI : D (tysI insI []) → Option (List α)) (nt : Nat) (its outX : List Item) (eX : Exit)
    (step : α → D (tysI its []) → Option (D (tysI its []) ⊕ D (tysI outX []))) (args : List AV) (H : Heap) (K : List AV → Heap → Option ρ) : Option ρ :=
  evL P (cal _) (qcal _) l1 ⟨args ++ List.replicate (fn.ntmps - args.length) .undef, H⟩ fun e st => match e with
    | .normal => evRng gf g ni insI FI nt its outX step st
        (fun d => evL P (cal _) (qcal _) l2 (bldS nt its d) (kEnd P fn K))
        (fun d => match eX with
          | .ret => kEnd P fn K .ret (bldS nt outX d)
          | .exit j => if j = out then evL P (cal _) (qcal _) l2 (bldS nt outX d) (kEnd P fn K) else none
          | _ => none)
    | e => kEnd P fn K e st
theorem callFunc_run {P : Program} (hP : Callable P) {gf : Nat} {gfn : Func} (hf : P.funcs[gf]? = some gfn) (hb : gfn.body.isSome = true) (args : Array Value) (w : World) : (callFunc gf args).run P w = .ok (.enter gf args) w := by
  have hn := hP gf gfn hf hb
  cases hq : gfn.body with
  | none => simp [hq] at hb
  | some cd => simp [callFunc, hf, hn, hq]
theorem fnSpec_range {P : Program} (hP : Callable P) {cal : Cals} (hcal : ∀ σ f, CalAt P f (cal σ f)) {qcal : QCals} (hq : ∀ σ f, QCalAt P f (qcal σ f)) {α : Type} {f n : Nat} {ins : List Item} {os : List Out} {F : D (tysI ins []) → Option (D (tysO os))} {fn gfn : Func} {c : Code}
    (hf : P.funcs[f]? = some fn) (hb : fn.body = some c) {l1 l2 : List Code} {out gf g ni : Nat} {ps : Array Tmp} {assign body : Code} (hc : unseq c = l1 ++ .block out (.rangeFunc (.tmp g) ps assign body) :: l2)
    (hgf : P.funcs[gf]? = some gfn) (hgb : gfn.body.isSome = true) {encs : α → Array Value} {enc : α → List AV} {ok : α → Prop} (hps : ∀ x, (encs x).size = ps.size) (henc : ∀ x, ok x → ∀ M, RelL M (enc x) (encs x).toList) {insI : List Item} {FI : D (tysI insI []) → Option (List α)} (hit : ItSpec P gf encs ok ni insI FI)
    (hca : calm assign = true) (hcb : calm body = true) {nt : Nat} {its outX : List Item} {eX : Exit} {step : α → D (tysI its []) → Option (D (tysI its []) ⊕ D (tysI outX []))}
    (hs : ∀ x d, evRound P cal qcal nt its outX eX ps.toList assign body (enc x) d = step x d) (hown : ∀ d, itSt (bldS ni insI d) = true)
    (h : ∀ d, evBodyR P cal qcal fn l1 l2 out gf g ni insI FI nt its outX eX step (bldS n ins d).tmps (bldS n ins d).heap (endO os) = F d) : FnSpec P f n ins os F := by
  intro d r hd M B w vs hl hH
  rw [← h] at hd
  have key : Calls P f vs w (EndR B w (endO os) r) := by
    refine callsIn_wide.1 (callsIn_of_wp_marks hf hb trivial (wl_code ?_))
    rw [hc]
    unfold evBodyR at hd
    have hsz := relL_size hl
    simp at hsz
    have hr0 : Rel M ⟨(bldS n ins d).tmps ++ List.replicate (fn.ntmps - (bldS n ins d).tmps.length) .undef, (bldS n ins d).heap⟩ B.clean w { tmps := vs ++ Array.replicate (fn.ntmps - vs.size) undef, defers := [] } w :=
      ⟨by rw [hsz]; exact relT_args hl _, rfl, hH.clean, Beneath.refl _ _⟩
    refine evL_sound hP (hcal _) (hq _) l1 _ _ hd M _ w hr0 fun e M' st' a' w' hk hr => ?_
    cases e with
    | normal =>
      show (Code.block out (.rangeFunc (.tmp g) ps assign body)).wpIn Fence.wide 0 P (Exit.then (WL P (bodyPostM Fence.wide 0 P fn (EndR B w (endO os) r)) l2) (bodyPostM Fence.wide 0 P fn (EndR B w (endO os) r))) a' w'
      refine wpIn_block ?_
      simp only at hk
      unfold evRng at hk
      split at hk
      · rename_i gf' caps hg
        split at hk
        · rename_i hgf'
          subst hgf'
          split at hk
          · rename_i di hdi
            simp only [Option.bind_eq_some_iff] at hk
            obtain ⟨xs, hxs, d1, hd1, r1, hr1, hk⟩ := hk
            have hv := hr.tmps.2 g
            rw [hg] at hv
            simp only [RelV, RelX] at hv
            obtain ⟨x, y, hv, h1, h2⟩ := hv
            have hv : a'.tmps.getD g undef = .func (.func gf') x y := by simpa using hv
            have hx : x = #[] := by
              rw [RelL_nil] at h1
              exact Array.toList_eq_nil_iff.1 h1
            subst hx
            obtain ⟨M2, t⟩ := extA_told h2 hr.heap hdi
            obtain ⟨bs, hbs⟩ : ∃ bs, bs = itBs caps st'.heap insI := ⟨_, rfl⟩
            rw [← hbs] at hd1
            obtain ⟨O0, hO0⟩ : ∃ O0 : Nat → Prop, O0 = fun k => ∃ b ∈ bs, ∃ pl, M'[b]? = some pl ∧ pl.nil = false ∧ pl.blk = k := ⟨_, rfl⟩
            have hbown : ∀ b ∈ bs, ∃ o, st'.heap[b]? = some (some o) ∧ o.own = true := by
              intro b hb
              rw [hbs] at hb
              unfold itBs at hb
              obtain ⟨ac, hac, hid⟩ := List.mem_filterMap.1 hb
              split at hid
              · rename_i how
                obtain ⟨i, hi⟩ := List.getElem?_of_mem hac
                obtain ⟨p1, _, g2, _⟩ := t.act i ac hi
                obtain ⟨o, p, k1, k2, _, _, k5, _⟩ := g2 b hid
                exact ⟨o, k1, k5 how⟩
              · cases hid
            have hOk : ∀ k, O0 k → k < w'.heap.size ∧ B.clean.w k := by
              intro k hk
              rw [hO0] at hk
              obtain ⟨b, hb, pl, k1, k2, rfl⟩ := hk
              obtain ⟨o, ho, how⟩ := hbown b hb
              obtain ⟨pl', hpl', hok⟩ := hr.heap.obj b o ho
              rw [k1] at hpl'
              cases hpl'
              rcases hok with ⟨q, _⟩ | ⟨_, cs, el, fz, q2, _, _, _, q6⟩
              · rw [k2] at q
                cases q
              · exact ⟨(Array.getElem?_eq_some_iff.1 q2).1, (q6 how).2.2⟩
            have hOf : ∀ k, O0 k → ∀ ob, ¬ FzAt M' k ob := by
              intro k hk
              rw [hO0] at hk
              obtain ⟨b, hb, pl, k1, k2, rfl⟩ := hk
              obtain ⟨o, ho, how⟩ := hbown b hb
              exact (hr.heap.fo b o pl ho k1 how k2).2
            have hOo : ∀ (i : Nat) (o : AObj) (pl : Place), (killL st'.heap bs)[i]? = some (some o) → M'[i]? = some pl → pl.nil = false → ¬ O0 pl.blk := by
              intro i o pl hi hpl hnil hk
              rw [hO0] at hk
              obtain ⟨b, hb, plb, k1, k2, k3⟩ := hk
              obtain ⟨ob, hob, how⟩ := hbown b hb
              obtain ⟨j1, j2⟩ := killL_at hi
              exact hr.heap.sep b i ob o plb pl hob j2 k1 hpl (fun e => j1 (e ▸ hb)) how k2 hnil k3
            have hib : RelH (dropFz M2) (bldS ni insI di).heap (itB O0 w') w' := by
              refine it_base t.heap (hown di) fun i o pl hi hpl hnil => ?_
              have hlt : i < (drop0 :: actsI ⟨caps, st'.heap⟩ false insI).length := by rw [t.len]; exact (List.getElem?_eq_some_iff.1 hpl).1
              obtain ⟨p1, g1, g2, g3, g4, _⟩ := t.act i _ (List.getElem?_eq_getElem hlt)
              rw [hpl] at g1
              cases g1
              have how := (itSt_at (hown di) hi).1
              have hac := g4 o hi
              rw [how] at hac
              cases hid : ((drop0 :: actsI ⟨caps, st'.heap⟩ false insI)[i]).id with
              | none =>
                obtain ⟨q, _⟩ := (g3.1 hid).2 hnil
                rw [q] at hac
                cases hac
              | some b =>
                obtain ⟨o', p, k1, k2, k3, k4, _⟩ := g2 b hid
                rw [hO0]
                refine ⟨b, ?_, p, k2, by rw [← k3]; exact hnil, k4.symm⟩
                rw [hbs]
                unfold itBs
                refine List.mem_filterMap.2 ⟨_, List.getElem_mem hlt, ?_⟩
                rw [← hac, if_pos rfl]
                exact hid
            have hnf : noFzL (bldS ni insI di).tmps = true := by
              have := hown di
              simp only [itSt, Bool.and_eq_true] at this
              exact this.1
            have hitat := hit di xs hxs (dropFz M2) w' O0 y (RelL.like (dropFz_like M2) _ _ hnf (relL_of_relT t.tmps)) hib fun k hk => (hOk k hk).1
            have hk1 : RelH M' (killL st'.heap bs) ⟨fun k => B.w k ∧ ¬ O0 k, fun k => B.vis k ∧ ¬ O0 k, B.pin, B.f, []⟩ w' := by
              have hkl : RelH M' (killL st'.heap bs) B.clean w' := RelH.killL hr.heap
              refine hkl.carryT (fun i o pl h1 h2 h3 => ⟨rfl, ⟨hkl.vis i o pl h1 h2 h3, hOo i o pl h1 h2 h3⟩, fun ho => ⟨(hkl.fo i o pl h1 h2 ho h3).1, fun h => ⟨h, hOo i o pl h1 h2 h3⟩⟩⟩)
                (fun k ob h => ?_) (fun _ _ h => h) (fun k hk => ?_) hkl.bf
              · obtain ⟨q1, q2, q3⟩ := hkl.fz k ob h
                have hno : ¬ O0 k := fun h' => hOf k h' ob h
                exact ⟨q1, ⟨q2, hno⟩, q3.imp (fun h => ⟨h, hno⟩) id⟩
              · have hno : ¬ O0 k := fun h' => by have := (hOk k h').1; omega
                exact ⟨⟨(hkl.base k hk).1, hno⟩, (hkl.base k hk).2, hno⟩
            obtain ⟨M3, hr3⟩ := extS_rel (st := ⟨st'.tmps, killL st'.heap bs⟩) (B := ⟨fun k => B.w k ∧ ¬ O0 k, fun k => B.vis k ∧ ¬ O0 k, B.pin, B.f, []⟩) (w0 := w') (a := a') (w := w') ⟨hr.tmps, hr.defers, hk1, Beneath.refl _ _⟩ hd1
            have ha' : a'.defers = [] := hr.defers
            have more : ∀ {its' : List Item} {d' : D (tysI its' [])} {M4 : List Place} {W : World}, evL P (cal _) (qcal _) l2 (bldS nt its' d') (kEnd P fn (endO os)) = some r → RelT M4 (bldS nt its' d').tmps a'.tmps → RelH M4 (bldS nt its' d').heap B.clean W → Beneath B.clean w W →
                W.heap[w'.heap.size]? = some (.deferred (some [])) → (∀ ob, ¬ FzAt M4 w'.heap.size ob) → WL P (bodyPostM Fence.wide 0 P fn (EndR B w (endO os) r)) l2 { a' with defers := mark w'.heap.size :: a'.defers } W := by
              intro its' d' M4 W hk hT4 hH4 hB4 hD hz
              rw [← List.append_nil l2]
              refine evL_sound hP (hcal _) (hq _) l2 _ _ hk M4 _ W (B := B.marked w'.heap.size) (w0 := W) ⟨hT4, by rw [ha']; rfl, hH4.unclean.marked hD rfl hz, Beneath.refl _ _⟩ fun e M5 st5 a5 w5 hk5 hr5 => ?_
              have hbf : ¬ B.f w'.heap.size := hr.heap.bf _ (Nat.le_refl _)
              have := kEnd_marked hk5 hr5 hD hbf hr.below.size hB4.unclean
              cases e <;> exact this
            refine range_sound (B := B.clean) (w0 := w) (d := d1) (r := r1) (M := M3) hP hcal hq hv (callFunc_run hP hgf hgb) hitat hps henc hca hcb hs hr.below.size hr.heap.bf hr1 hOk hr3.tmps ?_ hr.below ?_ ?_
            · intro W hW hn
              refine hr3.heap.carryT (fun i o pl h1 h2 h3 => ?_) (fun k ob h => ?_) (fun _ _ h => h) (fun k hk => ?_) (fun k hk => hr.heap.bf k (Nat.le_trans hW.size hk))
              · have hlt := hr3.heap.lt h1 h2 h3
                have hvv := hr3.heap.vis i o pl h1 h2 h3
                exact ⟨hW.block _ hlt, hvv, fun ho => ⟨(hr3.heap.fo i o pl h1 h2 ho h3).1, fun h => ⟨h.1, h.2, by omega⟩⟩⟩
              · obtain ⟨q1, q2, q3⟩ := hr3.heap.fz k ob h
                have hlt := (Array.getElem?_eq_some_iff.1 q1).1
                exact ⟨(hW.block _ hlt).trans q1, q2, q3.imp (fun h => ⟨h.1, h.2, by omega⟩) id⟩
              · have hno : ¬ O0 k := fun h' => by have := (hOk k h').1; omega
                have := hr.heap.base k (by omega)
                exact ⟨⟨this.1, hno, by omega⟩, this.2, hno⟩
            · intro d' M4 W hrd hT4 hH4 hB4 hD hz
              subst hrd
              exact more hk hT4 hH4 hB4 hD hz
            · intro d' M4 W hrd hT4 hH4 hB4 hD hz
              subst hrd
              simp only at hk
              split at hk
              · refine wpIn_ret ?_
                have hr5 : Rel M4 (bldS nt outX d') (B.marked w'.heap.size) W { a' with defers := mark w'.heap.size :: a'.defers } W := ⟨hT4, by rw [ha']; rfl, hH4.unclean.marked hD rfl hz, Beneath.refl _ _⟩
                exact kEnd_marked hk hr5 hD (hr.heap.bf _ (Nat.le_refl _)) hr.below.size hB4.unclean
              · split at hk
                · rename_i j hj
                  subst hj
                  refine wpIn_exit ?_
                  show if j = j then _ else _
                  rw [if_pos rfl]
                  exact more hk hT4 hH4 hB4 hD hz
                · cases hk
              · cases hk
          · cases hk
        · cases hk
      · cases hk
    | ret => exact kEnd_end hk hr
    | exit id => exact kEnd_end hk hr
    | goto l => exact kEnd_end hk hr
    | panic ch => exact kEnd_end hk hr
    | outgrown => exact kEnd_end hk hr
  refine key.mono ?_
  rintro e w' ⟨rs, l, H', M', rfl, hk, hl', hH', hb⟩
  exact ⟨rs, rfl, hb, relOut_of hH' hk hl'⟩
end Go.AE
set_option linter.unusedVariables false
set_option linter.unusedSimpArgs false
namespace Go.AE
open Go Go.RowKit
variable {α : Type}
def yldOf (st : St) : Op → Option (Nat × List AV)
  | .call c => match c.callee with
    | .value (.tmp t) => match st.tmps.getD t .undef with
      | .yld l => some (l, c.args.toList.map st.get)
      | _ => none
    | _ => none
  | _ => none
def evIExec (P : Program) (cal : Cal (List (Nat × α))) (dec : List AV → Option α) (o : Oper) (st : St) (K : St → Option (List (Nat × α))) : Option (List (Nat × α)) :=
  match yldOf st o.op with
  | some (l, args) => match ownAll st.heap with
    | true => (dec args).bind fun x => (K (st.put o.dst (.bool (some true) true))).bind fun L => (K (st.put o.dst (.bool (some false) false))).bind fun L2 => match L2 with
      | [] => some ((l, x) :: L)
      | _ => none
    | false => none
  | none => evExec P cal o st K
def evIList (P : Program) (cal : Cal (List (Nat × α))) (dec : List AV → Option α) (ops : Array Oper) : List Oper → St → (St → Option (List (Nat × α))) → Option (List (Nat × α))
  | [], st, K => K st
  | o :: l, st, K => guarded ops o st (evIExec P cal dec o) fun st' => evIList P cal dec ops l st' K
def isDyn (o : Oper) : Bool := match o.op with
  | .call c => match c.callee with
    | .value (.tmp _) => true
    | _ => false
  | _ => false
def dynIx (ops : Array Oper) : Option Nat := ops.toList.findIdx? isDyn
def evIRegion (P : Program) (cal : Cal (List (Nat × α))) (qcal : QCal (List (Nat × α))) (dec : List AV → Option α) (ops : Array Oper) (draw : Bool) (st : St) (K : St → Option (List (Nat × α))) : Option (List (Nat × α)) :=
  match dynIx ops with
  | none => evRegion P cal qcal ops draw st K
  | some n => match draw with
    | false => evIList P cal dec ops ops.toList st K
    | true => if P.follows .mixedOrders = true then
        if Region.lexTailB .any ops n = true then evQList P qcal ops (ops.toList.take n) st fun st' => evIList P cal dec ops (ops.toList.drop n) st' K else none
      else none
def evICode (P : Program) (cal : Cal (List (Nat × α))) (qcal : QCal (List (Nat × α))) (dec : List AV → Option α) : Code → St → (Exit → St → Option (List (Nat × α))) → Option (List (Nat × α))
  | .skip, st, K => K .normal st
  | .region _ ops draw, st, K => evIRegion P cal qcal dec ops draw st (K .normal)
  | .seq x y, st, K => evICode P cal qcal dec x st fun e st' => match e with
    | .normal => evICode P cal qcal dec y st' K
    | e => K e st'
  | .cond c x y, st, K => match st.get c with
    | .bool (some b) _ => cond b (evICode P cal qcal dec x st K) (evICode P cal qcal dec y st K)
    | .bool none b => cond b (evICode P cal qcal dec x (st.lit c true) K) (evICode P cal qcal dec y (st.lit c false) K)
    | _ => none
  | .block id c, st, K => evICode P cal qcal dec c st fun e st' => match e with
    | .exit id' => if id' = id then K .normal st' else K (.exit id') st'
    | e => K e st'
  | .loop c, st, K => loopN 300 (fun st K => evICode P cal qcal dec c st K) st K
  | .exit id, st, K => K (.exit id) st
  | .ret, st, K => K .ret st
  | .label _, st, K => K .normal st
  | _, _, _ => none
structure Yields (P : Program) (l0 : Nat) (encs : α → Array Value) (ok : α → Prop) (xs : List α) (J Jx : List α → (Nat → Prop) → World → Prop) : Prop where
  j : ∀ pre O W W', J pre O W → Beneath (OB O) W W' → J pre (grow O W W') W'
  jx : ∀ pre O W W', Jx pre O W → Beneath (OB O) W W' → Jx pre (grow O W W') W'
  y : ∀ pre x rest O W1, xs = pre ++ x :: rest → ok x → J pre O W1 → YieldAt Fence.wide 0 P l0 (encs x) W1 fun e W' =>
      W1.heap.size ≤ W'.heap.size ∧ Same O W1 W' ∧ ((e = .returned (.bool true) ∧ J (pre ++ [x]) O W') ∨ (e = .returned (.bool false) ∧ Jx (pre ++ [x]) O W'))
def Going (xs : List α) (l0 : Nat) (J Jx : List α → (Nat → Prop) → World → Prop) (L : List (Nat × α)) (O : Nat → Prop) (W : World) : Prop :=
  (∃ pre rest, xs = pre ++ rest ∧ L = rest.map (fun x => (l0, x)) ∧ J pre O W) ∨ (L = [] ∧ ∃ pre, pre <+: xs ∧ Jx pre O W)
structure ItRel (xs : List α) (l0 : Nat) (J Jx : List α → (Nat → Prop) → World → Prop) (M : List Place) (st : St) (O : Nat → Prop) (L : List (Nat × α)) (a : Go.Act) (W : World) : Prop where
  tmps : RelT M st.tmps a.tmps
  defers : a.defers = []
  heap : RelH M st.heap (itB O W) W
  o : ∀ k, O k → k < W.heap.size
  go : Going xs l0 J Jx L O W
section
variable {P : Program} {l0 : Nat} {encs : α → Array Value} {ok : α → Prop} {xs : List α} {J Jx : List α → (Nat → Prop) → World → Prop} {ops : Array Oper} {Q : Exit → Go.Act → World → Prop}
theorem ItRel.rel {M : List Place} {st : St} {O : Nat → Prop} {L : List (Nat × α)} {a : Go.Act} {W : World} (r : ItRel xs l0 J Jx M st O L a W) : Rel M st (itB O W) W a W := ⟨r.tmps, r.defers, r.heap, Beneath.refl _ _⟩
theorem ItRel.step (hy : Yields P l0 encs ok xs J Jx) {M M' : List Place} {st st' : St} {O : Nat → Prop} {L : List (Nat × α)} {a a' : Go.Act} {W W' : World} (r : ItRel xs l0 J Jx M st O L a W) (r' : Rel M' st' (itB O W) W a' W') : ItRel xs l0 J Jx M' st' (grow O W W') L a' W' := by
  have hB := r'.below.it
  refine ⟨r'.tmps, r'.defers, it_step r'.heap, fun k hk => hk.elim (fun h => Nat.lt_of_lt_of_le (r.o k h) hB.size) fun h => h.2, ?_⟩
  rcases r.go with ⟨pre, rest, h1, h2, h3⟩ | ⟨h1, pre, h2, h3⟩
  · exact .inl ⟨pre, rest, h1, h2, hy.j _ _ _ _ h3 hB⟩
  · exact .inr ⟨h1, pre, h2, hy.jx _ _ _ _ h3 hB⟩
theorem oper_yield {o : Oper} {t l : Nat} {args : Array Operand} {tys : Array TypeId} (ho : o.op = .call { callee := .value (.tmp t), args := args, argTypes := tys }) {a : Go.Act} {w : World}
    (hv : a.eval (.tmp t) = .func (.yield l) #[] #[]) {R : Ending → World → Prop} (hy : YieldAt Fence.wide 0 P l (args.map a.eval) w R) {K : Go.Act → World → Prop} (hR : ∀ e w', R e w' → ∃ b, e = .returned (.bool b) ∧ K (a.put o.dst (.bool b)) w') :
    o.wpIn Fence.wide 0 P a w K Q := by
  refine ⟨fun f _ => trivial, ?_⟩
  show o.uponIn _ 0 P a _ Q ((Oper.semAt none a.eval o).run P w)
  rw [Oper.semAt_none, yield_run ho hv]
  obtain ⟨fn, tmps, assign, body, hrun, hr⟩ := hy
  rw [hrun, Oper.uponIn_round]
  refine ⟨fun hd => by simp [Fence.wide] at hd, hr.mono fun e w' h => ?_⟩
  obtain ⟨b, rfl, h2⟩ := hR e w' h
  exact h2
theorem relV_boolLit (M : List Place) (b : Bool) : RelV M (.bool (some b) b) (.bool b) := by simp [RelV, RelX]
variable {dec : List AV → Option α}
def DecOk (dec : List AV → Option α) (encs : α → Array Value) (ok : α → Prop) : Prop := ∀ (M : List Place) (args : List AV) (vs : List Value) (x : α), RelL M args vs → dec args = some x → vs = (encs x).toList ∧ ok x
theorem evIExec_sound (hP : Callable P) {cal : Cal (List (Nat × α))} (hcal : ∀ f, CalAt P f (cal f)) (hy : Yields P l0 encs ok xs J Jx) (hdec : DecOk dec encs ok) {o : Oper} {st : St} {K : St → Option (List (Nat × α))} {L : List (Nat × α)} (h : evIExec P cal dec o st K = some L)
    {M : List Place} {O : Nat → Prop} {a : Go.Act} {W : World} (hr : ItRel xs l0 J Jx M st O L a W) {next : Go.Act → World → Prop} (hn : ∀ M' st' O' L' a' W', K st' = some L' → ItRel xs l0 J Jx M' st' O' L' a' W' → next a' W') : o.wpIn Fence.wide 0 P a W next Q := by
  unfold evIExec at h
  split at h
  · rename_i l args hyl
    split at h
    · rename_i hown
      simp only [Option.bind_eq_some_iff] at h
      obtain ⟨x, hx, L1, hL1, L2, hL2, h⟩ := h
      split at h
      · cases h
        unfold yldOf at hyl
        split at hyl
        · rename_i c hop
          split at hyl
          · rename_i t hc
            split at hyl
            · rename_i l' hl'
              cases hyl
              have hv := hr.tmps.2 t
              rw [hl'] at hv
              simp only [RelV, RelX] at hv
              have hv : a.eval (.tmp t) = .func (.yield l) #[] #[] := by simpa [Go.Act.eval] using hv
              rcases hr.go with ⟨pre, rest, g1, g2, g3⟩ | ⟨g1, _⟩
              · cases rest with
                | nil => cases g2
                | cons x' rest =>
                  simp only [List.map_cons, List.cons.injEq, Prod.mk.injEq] at g2
                  obtain ⟨⟨rfl, rfl⟩, rfl⟩ := g2
                  have hargs : (c.args.map a.eval).toList = (encs x).toList ∧ ok x := by
                    refine hdec M _ _ _ ?_ hx
                    rw [Array.toList_map]
                    exact relL_map (fun y => get_rel hr.tmps y) _
                  have hargs2 : c.args.map a.eval = encs x := Array.toList_inj.1 hargs.1
                  obtain ⟨callee, cargs, tys⟩ := c
                  simp only at hc hargs2
                  subst hc
                  refine oper_yield (tys := tys) hop hv (by rw [hargs2]; exact hy.y pre x rest O W g1 hargs.2 g3) ?_
                  rintro e W' ⟨hz, hs, h⟩
                  have hH : RelH M st.heap (itB O W') W' := it_round hr.heap hown hs hz
                  have put : ∀ (b : Bool), (st.put o.dst (.bool (some b) b)).heap = st.heap ∧ RelT M (st.put o.dst (.bool (some b) b)).tmps (a.put o.dst (.bool b)).tmps ∧ (a.put o.dst (.bool b)).defers = [] := fun b => by
                    cases o.dst with
                    | none => exact ⟨rfl, hr.tmps, hr.defers⟩
                    | some d => exact ⟨rfl, hr.tmps.put (relV_boolLit M b) d, hr.defers⟩
                  have ho : ∀ k, O k → k < W'.heap.size := fun k hk => Nat.lt_of_lt_of_le (hr.o k hk) hz
                  rcases h with ⟨rfl, h⟩ | ⟨rfl, h⟩
                  · obtain ⟨p1, p2, p3⟩ := put true
                    exact ⟨true, rfl, hn M _ O _ _ W' hL1 ⟨p2, p3, by rw [p1]; exact hH, ho, .inl ⟨pre ++ [x], rest, by rw [g1]; simp, rfl, h⟩⟩⟩
                  · obtain ⟨p1, p2, p3⟩ := put false
                    exact ⟨false, rfl, hn M _ O _ _ W' hL2 ⟨p2, p3, by rw [p1]; exact hH, ho, .inr ⟨rfl, pre ++ [x], ⟨rest, by rw [g1]; simp⟩, h⟩⟩⟩
              · cases g1
            · cases hyl
          · cases hyl
        · cases hyl
      · cases h
    · cases h
  · exact operW (evExec_sound hP hcal h hr.rel (Q := fun _ _ _ => False) fun M' st' a' w' _ hk hr' => hn M' st' _ L a' w' hk (hr.step hy hr')) (fun _ _ h => h) (fun _ _ _ h => h) (fun ⟨_, _, h⟩ => h)
theorem evIList_sound (hP : Callable P) {cal : Cal (List (Nat × α))} (hcal : ∀ f, CalAt P f (cal f)) (hy : Yields P l0 encs ok xs J Jx) (hdec : DecOk dec encs ok) {K : St → Option (List (Nat × α))} : ∀ {l : List Oper} {st : St} {L : List (Nat × α)} {M : List Place} {O : Nat → Prop} {a : Go.Act} {W : World},
    evIList P cal dec ops l st K = some L → ItRel xs l0 J Jx M st O L a W → (∀ M' st' O' L' a' W', K st' = some L' → ItRel xs l0 J Jx M' st' O' L' a' W' → Q .normal a' W') → wpListIn Fence.wide 0 P ops Q l a W
  | [], st, L, M, O, a, W, h, hr, hn => hn M st O L a W h hr
  | o :: l, st, L, M, O, a, W, h, hr, hn => by
    unfold wpListIn
    rcases guarded_sound h hr.tmps with ⟨hw, st', h', ht, hh⟩ | ⟨hw, st', h', ht, hh⟩
    · rw [if_pos hw]
      exact evIExec_sound hP hcal hy hdec h' ⟨ht, hr.defers, by rw [hh]; exact hr.heap, hr.o, hr.go⟩ fun M' st2 O' L' a' w' hk hr2 => evIList_sound hP hcal hy hdec hk hr2 hn
    · rw [if_neg (by rw [hw]; simp)]
      have hr' : Rel M st' (itB O W) W a W := ⟨ht, hr.defers, by rw [hh]; exact hr.heap, Beneath.refl _ _⟩
      have hr2 := hr'.put (relV_skip M) o.dst
      exact ⟨fun f _ => trivial, evIList_sound hP hcal hy hdec h' ⟨hr2.tmps, hr2.defers, hr2.heap, hr.o, hr.go⟩ hn⟩
theorem opInW {i : Nat} {K : Go.Act → World → Prop} {a : Go.Act} {w : World} (h : wpOp P ops (fun _ _ _ => False) i K a w) : wpOpIn Fence.wide 0 P ops Q i K a w := by
  unfold wpOp at h
  unfold wpOpIn
  cases ho : ops[i]? with
  | none =>
    rw [ho] at h
    exact h
  | some o =>
    rw [ho] at h
    simp only at h ⊢
    by_cases hw : Region.wanted o (yielded ops a.tmps) = true
    · rw [if_pos hw] at h ⊢
      rcases h with h | h
      · exact operW h (fun _ _ h => h) (fun _ _ _ h => h) (fun ⟨_, _, h⟩ => h)
      · exact absurd h.2 (fun ⟨_, _, h⟩ => h)
    · rw [if_neg hw] at h ⊢
      exact ⟨fun f _ => trivial, h⟩
theorem wpAnyIn_of_headQ {md : Region.Mode} {C : World → Prop} {n g : Nat} {L : Array Bool → Go.Act → Prop} (hL : ∀ listed a w, C w → L listed a → wpAnyIn Fence.wide 0 P md ops Q g listed a w) :
    ∀ (f : Nat) (listed : Array Bool) (a : Go.Act) (w : World), C w → wpAnyLQ P md ops C n L f listed a → wpAnyIn Fence.wide 0 P md ops Q (f + g) listed a w
  | 0, listed, a, w, hw, h => by rw [Nat.zero_add]; exact hL _ _ _ hw h
  | f + 1, listed, a, w, hw, h => by
    rw [show f + 1 + g = (f + g) + 1 by omega]
    exact ⟨fun h0 => absurd h0 h.1, fun i hi => opInW (wpOp_of_qOp hw (fun a' w' hw' h' => wpAnyIn_of_headQ hL f _ a' w' hw' h') (h.2 i hi).2)⟩
theorem wpAnyIn_of_seq {md : Region.Mode} : ∀ (l : List Oper) (k : Nat) (listed : Array Bool) (a : Go.Act) (w : World), (∀ j, l[j]? = ops[k + j]?) →
    Region.seqB md ops l.length k listed = true → wpListIn Fence.wide 0 P ops Q l a w → wpAnyIn Fence.wide 0 P md ops Q l.length listed a w
  | [], _, _, _, _, _, hB, h => ⟨by simpa [Region.seqB] using hB, h⟩
  | o :: l, k, listed, a, w, hl, hB, h => by
    have h0 : ops[k]? = some o := by simpa using (hl 0).symm
    simp only [List.length_cons, Region.seqB, Bool.and_eq_true, decide_eq_true_eq] at hB
    refine ⟨fun h1 => (by rw [hB.1] at h1; cases h1), fun i hi => ?_⟩
    rw [hB.1] at hi
    have hik : i = k := by simpa using hi
    subst hik
    have hw : wpOpIn Fence.wide 0 P ops Q i (wpListIn Fence.wide 0 P ops Q l) a w := by unfold wpOpIn; simp only [h0]; exact h
    exact wpOpIn_mono (fun a' w' h' => wpAnyIn_of_seq l (i + 1) _ a' w' (fun j => by have := hl (j + 1); simpa [Nat.add_assoc, Nat.add_comm 1 j] using this) hB.2 h') hw
theorem anyIn_quiet_tail (n : Nat) {C : World → Prop} {a : Go.Act} {w : World} (hB : Region.lexTailB .any ops n = true) (hC : C w.drew)
    (h : wpQuiet P ops C (fun a' => ∀ w', C w' → wpListIn Fence.wide 0 P ops Q (ops.toList.drop n) a' w') (ops.toList.take n) a) : wpAnyIn Fence.wide 0 P .any ops Q ops.size (Array.replicate ops.size false) a w.drew := by
  simp only [Region.lexTailB, Bool.and_eq_true, decide_eq_true_eq] at hB
  obtain ⟨⟨⟨⟨hsel, hn⟩, hs⟩, hc⟩, hlex⟩ := hB
  have htl : (ops.toList.take n).length = n := by simp; omega
  have hdl : (ops.toList.drop n).length = ops.size - n := by simp
  have inv0 : HeadInv .any ops n (Array.replicate ops.size false) :=
    ⟨by simp, fun j oj _ hl => (by rw [getD_replicate_false] at hl; cases hl), fun t _ ht => getD_in (by simpa using ht) (getD_replicate_false _ _)⟩
  have H := wpAnyLQ_lex (md := .any) (g := ops.size - n) hsel hs hc hn (ops.toList.take n) 0 _ a (fun j hj => by
    have hj' : j < n := by rw [htl] at hj; exact hj
    simp [hj']) (by simpa using htl) inv0 (by rw [htl]; exact hlex) h
  have := wpAnyIn_of_headQ (Q := Q) (g := ops.size - n) (fun listed a' w' hw' hL => by
    have := wpAnyIn_of_seq (md := .any) (Q := Q) (ops.toList.drop n) n listed a' w' (fun j => by simp [List.getElem?_drop]) (by rw [hdl]; exact hL.1) (hL.2 w' hw')
    rwa [hdl] at this) _ _ _ _ hC H
  rw [htl, show n + (ops.size - n) = ops.size by omega] at this
  exact this
theorem evIRegion_sound (hP : Callable P) {cal : Cal (List (Nat × α))} (hcal : ∀ f, CalAt P f (cal f)) {qcal : QCal (List (Nat × α))} (hq : ∀ f, QCalAt P f (qcal f)) (hy : Yields P l0 encs ok xs J Jx) (hdec : DecOk dec encs ok) {draw : Bool} {id : Nat} {st : St} {K : St → Option (List (Nat × α))} {L : List (Nat × α)}
    (h : evIRegion P cal qcal dec ops draw st K = some L) {M : List Place} {O : Nat → Prop} {a : Go.Act} {W : World} (hr : ItRel xs l0 J Jx M st O L a W) (hn : ∀ M' st' O' L' a' W', K st' = some L' → ItRel xs l0 J Jx M' st' O' L' a' W' → Q .normal a' W') : (Code.region id ops draw).wpIn Fence.wide 0 P Q a W := by
  unfold evIRegion at h
  split at h
  · exact wpIn_wide.2 (evRegion_sound hP hcal hq h hr.rel fun M' st' a' w' _ hk hr' => hn M' st' _ L a' w' hk (hr.step hy hr'))
  · rename_i n _
    split at h
    · exact wpIn_region_list (evIList_sound hP hcal hy hdec h hr hn)
    · split at h
      · rename_i hm
        split at h
        · rename_i hB
          refine wpIn_region_any hm (anyIn_quiet_tail n (C := fun w' => Below W.drew.heap.size W.drew w') hB (Below.refl _ _) ?_)
          have hb0 : Below W.heap.size W W.drew := (Below.refl _ _).drew
          exact evQList_sound hP hq (hr.heap.below hb0) h hr.tmps rfl hr.defers fun st' a' hk ht hh hd w' hb => evIList_sound hP hcal hy hdec hk
            (hr.step hy (a' := a') (W' := w') ⟨ht, hd, by rw [hh]; exact (hr.heap.below hb0).below hb, (Beneath.of hb0).trans (Beneath.of hb)⟩) hn
        · cases h
      · cases h
theorem ItRel.lit {M : List Place} {st : St} {O : Nat → Prop} {L : List (Nat × α)} {a : Go.Act} {W : World} (r : ItRel xs l0 J Jx M st O L a W) {c : Operand} {b : Bool} (hb : a.eval c = .bool b) : ItRel xs l0 J Jx M (st.lit c b) O L a W := by
  cases c with
  | tmp t =>
    have h1 := r.rel.put (x := .bool (some b) b) (v := .bool b) (by simp [RelV, RelX]) (some t)
    simp only [Go.Act.eval] at hb
    rw [← hb, put_self] at h1
    exact ⟨h1.tmps, h1.defers, h1.heap, r.o, r.go⟩
  | _ => exact r
theorem evICode_sound (hP : Callable P) {cal : Cal (List (Nat × α))} (hcal : ∀ f, CalAt P f (cal f)) {qcal : QCal (List (Nat × α))} (hq : ∀ f, QCalAt P f (qcal f)) (hy : Yields P l0 encs ok xs J Jx) (hdec : DecOk dec encs ok) :
    ∀ (c : Code) (st : St) (K : Exit → St → Option (List (Nat × α))) (L : List (Nat × α)), evICode P cal qcal dec c st K = some L → ∀ (M : List Place) (O : Nat → Prop) (a : Go.Act) (W : World) (Q : Exit → Go.Act → World → Prop), ItRel xs l0 J Jx M st O L a W →
      (∀ e M' st' O' L' a' W', K e st' = some L' → ItRel xs l0 J Jx M' st' O' L' a' W' → Q e a' W') → c.wpIn Fence.wide 0 P Q a W := by
  intro c
  induction c with
  | skip => intro st K L h M O a W Q hr hn; exact wpIn_skip (hn _ M st O L a W h hr)
  | region id ops draw => intro st K L h M O a W Q hr hn; exact evIRegion_sound hP hcal hq hy hdec h hr fun M' st' O' L' a' W' => hn .normal M' st' O' L' a' W'
  | seq x y ihx ihy =>
    intro st K L h M O a W Q hr hn
    refine wpIn_seq (ihx st _ L h M O a W _ hr fun e M' st' O' L' a' W' hk hr' => ?_)
    cases e with
    | normal => exact ihy st' K L' hk M' O' a' W' Q hr' hn
    | exit id => exact hn _ M' st' O' L' a' W' hk hr'
    | goto l => exact hn _ M' st' O' L' a' W' hk hr'
    | ret => exact hn _ M' st' O' L' a' W' hk hr'
    | panic ch => exact hn _ M' st' O' L' a' W' hk hr'
    | outgrown => exact hn _ M' st' O' L' a' W' hk hr'
  | cond c x y ihx ihy =>
    intro st K L h M O a W Q hr hn
    have hg := get_rel hr.tmps c
    unfold evICode at h
    split at h
    · rename_i b z hst
      rw [hst] at hg
      obtain ⟨e, hl⟩ := relV_bool hg
      have := hl b rfl
      subst this
      cases z
      · exact wpIn_cond_false e (ihy st K L h M O a W Q hr hn)
      · exact wpIn_cond_true e (ihx st K L h M O a W Q hr hn)
    · rename_i b hst
      rw [hst] at hg
      obtain ⟨e, _⟩ := relV_bool hg
      cases b
      · exact wpIn_cond_false e (ihy _ K L h M O a W Q (hr.lit e) hn)
      · exact wpIn_cond_true e (ihx _ K L h M O a W Q (hr.lit e) hn)
    · cases h
  | block id c ih =>
    intro st K L h M O a W Q hr hn
    unfold evICode at h
    refine wpIn_block (ih st _ L h M O a W _ hr fun e M' st' O' L' a' W' hk hr' => ?_)
    cases e with
    | exit id' =>
      simp only at hk
      unfold Exit.inBlock
      split at hk
      · rename_i hid
        simp only [hid, if_true]
        exact hn _ M' st' O' L' a' W' hk hr'
      · rename_i hid
        simp only [hid, if_false]
        exact hn _ M' st' O' L' a' W' hk hr'
    | normal => exact hn _ M' st' O' L' a' W' hk hr'
    | goto l => exact hn _ M' st' O' L' a' W' hk hr'
    | ret => exact hn _ M' st' O' L' a' W' hk hr'
    | panic ch => exact hn _ M' st' O' L' a' W' hk hr'
    | outgrown => exact hn _ M' st' O' L' a' W' hk hr'
  | loop c ih =>
    intro st K L h M O a W Q hr hn
    unfold evICode at h
    refine wpIn_loop_ind (fun m a' w' => ∃ st' M' O' L', loopN m (fun st K => evICode P cal qcal dec c st K) st' K = some L' ∧ ItRel xs l0 J Jx M' st' O' L' a' w') (m := 300) ⟨st, M, O, L, h, hr⟩ ?_
    rintro m a1 w1 ⟨st1, M1, O1, L1, h1, hr1⟩
    cases m with
    | zero => cases h1
    | succ m =>
      unfold loopN at h1
      refine ih st1 _ L1 h1 M1 O1 a1 w1 _ hr1 fun e M' st' O' L' a' W' hk hr' => ?_
      cases e with
      | normal => exact ⟨m, by omega, st', M', O', L', hk, hr'⟩
      | exit id => exact hn _ M' st' O' L' a' W' hk hr'
      | goto l => exact hn _ M' st' O' L' a' W' hk hr'
      | ret => exact hn _ M' st' O' L' a' W' hk hr'
      | panic ch => exact hn _ M' st' O' L' a' W' hk hr'
      | outgrown => exact hn _ M' st' O' L' a' W' hk hr'
  | exit id => intro st K L h M O a W Q hr hn; exact wpIn_exit (hn _ M st O L a W h hr)
  | ret => intro st K L h M O a W Q hr hn; exact wpIn_ret (hn _ M st O L a W h hr)
  | label l => intro st K L h M O a W Q hr hn; exact wpIn_label (hn _ M st O L a W h hr)
  | _ => intro st K L h; cases h
end
def kIEnd (P : Program) (fn : Func) : Exit → St → Option (List (Nat × α)) := fun e st => match e with
  | .normal | .ret => match aresL P st fn.results.toList with
    | some _ => some []
    | none => none
  | _ => none
def itHead (fn : Func) (n : Nat) (ins : List Item) (l : Nat) (d : D (tysI ins [])) : St := ⟨(.yld l :: (bldS n ins d).tmps) ++ List.replicate (fn.ntmps - (n + 1)) .undef, (bldS n ins d).heap⟩
theorem itSpec_of {P : Program} {gf : FuncId} {fn : Func} {c : Code} (hf : P.funcs[gf]? = some fn) (hb : fn.body = some c) {encs : α → Array Value} {ok : α → Prop} {n : Nat} {ins : List Item} {F : D (tysI ins []) → Option (List α)}
    (hlen : ∀ d, (bldS n ins d).tmps.length = n) (hown : ∀ d, ownAll (bldS n ins d).heap = true)
    (h : ∀ (d : D (tysI ins [])) (xs : List α) (l0 : Nat) (J Jx : List α → (Nat → Prop) → World → Prop), F d = some xs → Yields P l0 encs ok xs J Jx → ∀ (M : List Place) (O : Nat → Prop) (a : Go.Act) (W : World), ItRel xs l0 J Jx M (itHead fn n ins l0 d) O (xs.map fun x => (l0, x)) a W →
      c.wpIn Fence.wide 0 P (fun e a' W' => ∃ M' st' O', kIEnd (α := α) P fn e st' = some [] ∧ ItRel xs l0 J Jx M' st' O' [] a' W') a W) : ItSpec P gf encs ok n ins F := by
  intro d xs hd M w O0 lb hl hH hO
  intro l J Jx W hs hz hJ hJx hY hJ0
  have hsz := relL_size hl
  simp at hsz
  refine callsIn_of_wp hf hb trivial ?_
  have hy : Yields P l encs ok xs J Jx := ⟨hJ, hJx, hY⟩
  have hH' : RelH M (bldS n ins d).heap (itB O0 W) W := it_round hH (hown d) hs hz
  · refine wpIn_mono (h d xs l J Jx hd hy M O0 _ W ⟨?_, rfl, hH', fun k hk => Nat.lt_of_lt_of_le (hO k hk) hz, .inl ⟨[], xs, rfl, rfl, hJ0⟩⟩) ?_
    · have h1 : RelL M (.yld l :: (bldS n ins d).tmps) (#[Value.func (.yield l) #[] #[]] ++ lb).toList := by
        rw [Array.toList_append]
        exact RelL_cons.2 ⟨_, _, rfl, by simp [RelX], hl⟩
      have h2 := relT_args h1 (fn.ntmps - (n + 1))
      have e : (#[Value.func (.yield l) #[] #[]] ++ lb).size = n + 1 := by
        have := hlen d
        simp
        omega
      rw [e]
      exact h2
    · rintro e a' W' ⟨M', st', O', hk, hr⟩
      have fin : (match aresL P st' fn.results.toList with | some _ => some [] | none => none) = some ([] : List (Nat × α)) → a'.defers = [] ∧ ∃ v, (results fn a'.tmps).run P W' = .ok v W' ∧ ((∃ v', Ending.returned v = .returned v') ∧ ((∃ O, J xs O W') ∨ ∃ pre O, pre <+: xs ∧ Jx pre O W')) := by
        intro hk
        split at hk
        · rename_i lr hlr
          obtain ⟨rs, h1, h2⟩ := results_run (fn := fn) hr.tmps hr.heap hlr
          refine ⟨hr.defers, _, h2, ⟨_, rfl⟩, ?_⟩
          rcases hr.go with ⟨pre, rest, g1, g2, g3⟩ | ⟨_, pre, g2, g3⟩
          · have : rest = [] := by simpa using g2.symm
            subst this
            simp at g1
            subst g1
            exact .inl ⟨_, g3⟩
          · exact .inr ⟨pre, _, g2, g3⟩
        · cases hk
      cases e <;> simp only [kIEnd, reduceCtorEq] at hk
      case normal => exact fin hk
      case ret => exact fin hk
def bldY (l : Nat) (nt : Nat) (its : List Item) (d : D (tysI its [])) : St := ⟨(bldS nt its d).tmps.set 0 (.yld l), (bldS nt its d).heap⟩
def kIL (P : Program) (fn : Func) (nt : Nat) (its : List Item) (id : Nat) (L : Nat → D (tysI its []) → Option (List (Nat × α))) : Exit → St → Option (List (Nat × α)) := fun e st => match e with
  | .normal => (match st.tmps.getD 0 .undef with
    | .yld l => (extS nt its st).bind fun d => L l d
    | _ => none)
  | .exit j => if j = id then kIEnd P fn .normal st else none
  | .ret => kIEnd P fn .ret st
  | _ => none
theorem kIEnd_nil {P : Program} {fn : Func} {e : Exit} {st : St} {L : List (Nat × α)} (h : kIEnd P fn e st = some L) : L = [] := by
  unfold kIEnd at h
  split at h
  · split at h
    · cases h; rfl
    · cases h
  · split at h
    · cases h; rfl
    · cases h
  · cases h
theorem bldY_rel {xs : List α} {l0 : Nat} {J Jx : List α → (Nat → Prop) → World → Prop} {M : List Place} {st : St} {O : Nat → Prop} {L : List (Nat × α)} {a : Go.Act} {W : World} (r : ItRel xs l0 J Jx M st O L a W) {l nt : Nat} (hl : st.tmps.getD 0 .undef = .yld l) {its : List Item} {d : D (tysI its [])} (hd : extS nt its st = some d) :
    ∃ M', ItRel xs l0 J Jx M' (bldY l nt its d) O L a W := by
  obtain ⟨M', h⟩ := extS_rel r.rel hd
  refine ⟨M', ?_, h.defers, h.heap, r.o, r.go⟩
  have hv := r.tmps.2 0
  rw [hl] at hv
  have hv' : RelV M' (.yld l) (a.tmps.getD 0 undef) := by
    simp only [RelV, RelX] at hv ⊢
    exact hv
  have h1 := h.tmps.put hv' 0
  have h2 := congrArg Go.Act.tmps (put_self (a := a) (d := 0))
  simp only [Go.Act.put] at h2
  rw [h2] at h1
  exact h1
def evIL (P : Program) (cal : Cal (List (Nat × α))) (qcal : QCal (List (Nat × α))) (dec : List AV → Option α) : List Code → St → (Exit → St → Option (List (Nat × α))) → Option (List (Nat × α))
  | [], st, K => K .normal st
  | c :: r, st, K => evICode P cal qcal dec c st fun e st' => match e with
    | .normal => evIL P cal qcal dec r st' K
    | e => K e st'
theorem evIL_sound {P : Program} (hP : Callable P) {cal : Cal (List (Nat × α))} (hcal : ∀ f, CalAt P f (cal f)) {qcal : QCal (List (Nat × α))} (hq : ∀ f, QCalAt P f (qcal f)) {encs : α → Array Value} {ok : α → Prop} {dec : List AV → Option α} {xs : List α} {l0 : Nat} {J Jx : List α → (Nat → Prop) → World → Prop} (hy : Yields P l0 encs ok xs J Jx) (hdec : DecOk dec encs ok)
    {Q : Exit → Go.Act → World → Prop} {more : List Code} : ∀ (l : List Code) (st : St) (K : Exit → St → Option (List (Nat × α))) (L : List (Nat × α)), evIL P cal qcal dec l st K = some L → ∀ (M : List Place) (O : Nat → Prop) (a : Go.Act) (W : World), ItRel xs l0 J Jx M st O L a W →
      (∀ e M' st' O' L' a' W', K e st' = some L' → ItRel xs l0 J Jx M' st' O' L' a' W' → Exit.then (WL P Q more) Q e a' W') → WL P Q (l ++ more) a W
  | [], st, K, L, h, M, O, a, W, hr, hn => hn .normal M st O L a W h hr
  | c :: l, st, K, L, h, M, O, a, W, hr, hn => by
    show c.wpIn Fence.wide 0 P (Exit.then (WL P Q (l ++ more)) Q) a W
    refine evICode_sound hP hcal hq hy hdec c _ _ _ h M O a W _ hr fun e M' st' O' L' a' W' hk hr' => ?_
    cases e with
    | normal => exact evIL_sound hP hcal hq hy hdec l st' K L' hk M' O' a' W' hr' hn
    | exit id => exact hn (.exit id) M' st' O' L' a' W' hk hr'
    | goto l => exact hn (.goto l) M' st' O' L' a' W' hk hr'
    | ret => exact hn .ret M' st' O' L' a' W' hk hr'
    | panic ch => exact hn (.panic ch) M' st' O' L' a' W' hk hr'
    | outgrown => exact hn .outgrown M' st' O' L' a' W' hk hr'
theorem itSpec_loop {P : Program} (hP : Callable P) {cal : Cals} (hcal : ∀ σ f, CalAt P f (cal σ f)) {qcal : QCals} (hq : ∀ σ f, QCalAt P f (qcal σ f)) {gf : FuncId} {fn : Func} {c body : Code} {l1 : List Code} {id : Nat} (hf : P.funcs[gf]? = some fn) (hb : fn.body = some c) (hc : unseq c = l1 ++ [.block id (.loop body)])
    {encs : α → Array Value} {ok : α → Prop} {dec : List AV → Option α} (hdec : DecOk dec encs ok)
    {n nt : Nat} {ins its : List Item} {F : D (tysI ins []) → Option (List α)} (hlen : ∀ d, (bldS n ins d).tmps.length = n) (hown : ∀ d, ownAll (bldS n ins d).heap = true)
    (L : Nat → Nat → D (tysI its []) → Option (List (Nat × α))) (fuel : Nat) (h0 : ∀ l d, L 0 l d = none)
    (hs : ∀ k l d, evICode P (cal _) (qcal _) dec body (bldY l nt its d) (kIL P fn nt its id (L k)) = L (k + 1) l d)
    (h : ∀ l d, evIL P (cal _) (qcal _) dec l1 (itHead fn n ins l d) (fun e st => match e with
      | .normal => kIL P fn nt its id (L fuel) .normal st
      | _ => none) = (F d).map (List.map fun x => (l, x))) : ItSpec P gf encs ok n ins F := by
  refine itSpec_of hf hb hlen hown fun d xs l0 J Jx hd hy M O a W hr => ?_
  have h1 := h l0 d
  rw [hd] at h1
  refine wl_code ?_
  rw [hc]
  refine evIL_sound hP (hcal _) (hq _) hy hdec l1 _ _ _ h1 M O a W hr fun e M' st' O' L' a' W' hk hr' => ?_
  cases e <;> simp only [reduceCtorEq] at hk
  simp only [kIL] at hk
  split at hk
  · rename_i l hl
    simp only [Option.bind_eq_some_iff] at hk
    obtain ⟨d1, hd1, hk⟩ := hk
    obtain ⟨M1, hr1⟩ := bldY_rel hr' hl hd1
    show (Code.block id (.loop body)).wpIn Fence.wide 0 P _ a' W'
    refine wpIn_block ?_
    refine wpIn_loop_ind (fun m a' w' => ∃ l' d' M' O' L', L m l' d' = some L' ∧ ItRel xs l0 J Jx M' (bldY l' nt its d') O' L' a' w') (m := fuel) ⟨l, d1, M1, O', L', hk, hr1⟩ ?_
    rintro m a1 w1 ⟨l2, d2, M2, O2, L2, h2, hr2⟩
    cases m with
    | zero => rw [h0] at h2; cases h2
    | succ m =>
      rw [← hs] at h2
      refine evICode_sound hP (hcal _) (hq _) hy hdec body _ _ _ h2 M2 O2 a1 w1 _ hr2 fun e M' st' O' L' a' W' hk hr' => ?_
      cases e with
      | normal =>
        simp only [kIL] at hk
        split at hk
        · rename_i l3 hl3
          simp only [Option.bind_eq_some_iff] at hk
          obtain ⟨d3, hd3, hk⟩ := hk
          obtain ⟨M3, hr3⟩ := bldY_rel hr' hl3 hd3
          exact ⟨m, by omega, l3, d3, M3, O', L', hk, hr3⟩
        · cases hk
      | exit j =>
        simp only [kIL] at hk
        split at hk
        · rename_i hj
          subst hj
          have := kIEnd_nil hk
          subst this
          show if j = j then _ else _
          rw [if_pos rfl]
          exact ⟨M', st', O', hk, hr'⟩
        · cases hk
      | ret =>
        simp only [kIL] at hk
        have := kIEnd_nil hk
        subst this
        exact ⟨M', st', O', hk, hr'⟩
      | goto t => simp only [kIL] at hk; cases hk
      | panic ch => simp only [kIL] at hk; cases hk
      | outgrown => simp only [kIL] at hk; cases hk
  · cases hk
end Go.AE
set_option linter.unusedVariables false
set_option linter.unusedSimpArgs false
namespace Go.AE
open Go Go.RowKit
def encsII (x : Int × Int) : Array Value := #[.int .i64 x.1, .int .i64 x.2]
def encII (x : Int × Int) : List AV := [.int .i64 none x.1, .int .i64 none x.2]
def okII (x : Int × Int) : Prop := IntKind.i64.has x.1 ∧ IntKind.i64.has x.2
def decII : List AV → Option (Int × Int)
  | [.int .i64 _ x, .int .i64 _ y] => some (x, y)
  | _ => none
theorem decII_ok : DecOk decII encsII okII := by
  intro M args vs x hl h
  unfold decII at h
  split at h
  · cases h
    obtain ⟨v, r, rfl, h1, h2⟩ := RelL_cons.1 hl
    obtain ⟨v2, r2, rfl, h3, h4⟩ := RelL_cons.1 h2
    rw [RelL_nil] at h4
    subst h4
    obtain ⟨e1, g1, _⟩ := relV_int h1
    obtain ⟨e2, g2, _⟩ := relV_int h3
    subst e1 e2
    exact ⟨rfl, g1, g2⟩
  · cases h
theorem encII_rel (x : Int × Int) (h : okII x) (M : List Place) : RelL M (encII x) (encsII x).toList :=
  RelL_cons.2 ⟨_, _, rfl, RelX_int.2 ⟨rfl, h.1, fun m hm => by cases hm⟩, RelL_cons.2 ⟨_, _, rfl, RelX_int.2 ⟨rfl, h.2, fun m hm => by cases hm⟩, RelL_nil.2 rfl⟩⟩
def fst1 {α : Type} (l : Nat) (x : α) (r : Option (List (Nat × α))) : Option (List (Nat × α)) := r.bind fun L => (some ([] : List (Nat × α))).bind fun L2 => match L2 with
  | [] => some ((l, x) :: L)
  | _ => none
def cons1 {α : Type} (x : α) (r : Option (List α)) : Option (List α) := r.bind fun L => some (x :: L)
abbrev Tag (α : Type) := Option (List (Nat × α))
def sizesS (hf : Int → Option (Int × Unit)) (rec : Nat → Int → Int → Tag (Int × Int)) (l : Nat) (w h : Int) : Tag (Int × Int) :=
  cond (decide ((1 : Int) ≤ w)) (cond (decide ((1 : Int) ≤ h)) (fst1 l (w, h) (cond (decide ((1 : Int) < w)) ((hf w).bind fun a => (hf h).bind fun b => rec l a.1 b.1) (cond (decide ((1 : Int) < h)) ((hf w).bind fun a => (hf h).bind fun b => rec l a.1 b.1) (some [])))) (some [])) (some [])
def sizesT (hf : Int → Option (Int × Unit)) : Nat → Nat → Int → Int → Tag (Int × Int)
  | 0, _, _, _ => none
  | k + 1, l, w, h => sizesS hf (sizesT hf k) l w h
def sizesL (hf : Int → Option (Int × Unit)) : Nat → Int → Int → Option (List (Int × Int))
  | 0, _, _ => none
  | k + 1, w, h => cond (decide ((1 : Int) ≤ w)) (cond (decide ((1 : Int) ≤ h)) (cons1 (w, h) (cond (decide ((1 : Int) < w)) ((hf w).bind fun a => (hf h).bind fun b => sizesL hf k a.1 b.1) (cond (decide ((1 : Int) < h)) ((hf w).bind fun a => (hf h).bind fun b => sizesL hf k a.1 b.1) (some [])))) (some [])) (some [])
theorem fst1_tag {α : Type} (l : Nat) (x : α) (r : Option (List α)) : fst1 l x (r.map (List.map fun x => (l, x))) = (cons1 x r).map (List.map fun x => (l, x)) := by
  cases r <;> rfl
theorem bind_map {α β γ : Type} (x : Option α) (f : α → Option β) (g : β → γ) : (x.bind f).map g = x.bind fun a => (f a).map g := by cases x <;> rfl
theorem cond_map {β γ : Type} (b : Bool) (x y : Option β) (g : β → γ) : (cond b x y).map g = cond b (x.map g) (y.map g) := by cases b <;> rfl
theorem sizes_tag (hf : Int → Option (Int × Unit)) (l : Nat) : ∀ (k : Nat) (w h : Int), sizesT hf k l w h = (sizesL hf k w h).map (List.map fun x => (l, x))
  | 0, w, h => rfl
  | k + 1, w, h => by
    have ih : sizesT hf k l = fun a b => (sizesL hf k a b).map (List.map fun x => (l, x)) := funext fun a => funext fun b => sizes_tag hf l k a b
    show sizesS hf (sizesT hf k) l w h = _
    unfold sizesS sizesL
    simp only [cond_map, ← fst1_tag, bind_map, ih]
    rfl
def levelsS (sd : Int → Int → Option (Int × Unit)) (rec : Nat → Int → Int → Int → Int → Tag (Int × Int)) (l : Nat) (n i w h : Int) : Tag (Int × Int) :=
  cond (decide (i < n)) ((sd w i).bind fun a => (sd h i).bind fun b => fst1 l (a.1, b.1) (rec l n (IntKind.i64.wrap (i + 1)) w h)) (some [])
def levelsT (sd : Int → Int → Option (Int × Unit)) : Nat → Nat → Int → Int → Int → Int → Tag (Int × Int)
  | 0, _, _, _, _, _ => none
  | k + 1, l, n, i, w, h => levelsS sd (levelsT sd k) l n i w h
def levelsL (sd : Int → Int → Option (Int × Unit)) : Nat → Int → Int → Int → Int → Option (List (Int × Int))
  | 0, _, _, _, _ => none
  | k + 1, n, i, w, h => cond (decide (i < n)) ((sd w i).bind fun a => (sd h i).bind fun b => cons1 (a.1, b.1) (levelsL sd k n (IntKind.i64.wrap (i + 1)) w h)) (some [])
theorem levels_tag (sd : Int → Int → Option (Int × Unit)) (l : Nat) : ∀ (k : Nat) (n i w h : Int), levelsT sd k l n i w h = (levelsL sd k n i w h).map (List.map fun x => (l, x))
  | 0, n, i, w, h => rfl
  | k + 1, n, i, w, h => by
    have ih : levelsT sd k l = fun n i w h => (levelsL sd k n i w h).map (List.map fun x => (l, x)) := funext fun n => funext fun i => funext fun w => funext fun h => levels_tag sd l k n i w h
    show levelsS sd (levelsT sd k) l n i w h = _
    unfold levelsS levelsL
    simp only [cond_map, ← fst1_tag, bind_map, ih]
    rfl
def rngPs : List Code → Array Tmp
  | .block _ (.rangeFunc _ ps _ _) :: _ => ps
  | _ => #[]
def rngAssign : List Code → Code
  | .block _ (.rangeFunc _ _ a _) :: _ => a
  | _ => .skip
def rngBody : List Code → Code
  | .block _ (.rangeFunc _ _ _ b) :: _ => b
  | _ => .skip
def isRng (out g : Nat) : List Code → Bool
  | .block o (.rangeFunc (.tmp t) _ _ _) :: _ => o == out && t == g
  | _ => false
theorem rng_split {c : Code} {k out g : Nat} (h : isRng out g ((unseq c).drop k) = true) : unseq c = (unseq c).take k ++ .block out (.rangeFunc (.tmp g) (rngPs ((unseq c).drop k)) (rngAssign ((unseq c).drop k)) (rngBody ((unseq c).drop k))) :: (unseq c).drop (k + 1) := by
  conv => lhs; rw [← List.take_append_drop k (unseq c)]
  congr 1
  rw [← List.drop_drop (i := 1) (j := k)]
  generalize (unseq c).drop k = l at h ⊢
  unfold isRng at h
  split at h
  · simp only [Bool.and_eq_true, beq_iff_eq] at h
    obtain ⟨rfl, rfl⟩ := h
    rfl
  · cases h
def loopEnd : List Code → Code
  | [.block _ (.loop b)] => b
  | _ => .skip
def isLoopEnd (id : Nat) : List Code → Bool
  | [.block i (.loop _)] => i == id
  | _ => false
theorem loop_split {c : Code} {k id : Nat} (h : isLoopEnd id ((unseq c).drop k) = true) : unseq c = (unseq c).take k ++ [.block id (.loop (loopEnd ((unseq c).drop k)))] := by
  conv => lhs; rw [← List.take_append_drop k (unseq c)]
  congr 1
  generalize (unseq c).drop k = l at h ⊢
  unfold isLoopEnd at h
  split at h
  · simp only [beq_iff_eq] at h
    subst h
    rfl
  · cases h
end Go.AE
set_option linter.unusedVariables false
set_option linter.unusedSimpArgs false
namespace Go.AE
open Go Go.RowKit Go.Deep Go.ChangeShapes Go.WideShapes
def MZ (w : World) : List Place := [⟨true, 0, 0, 0, 0, fun k => w.heap[k]?⟩]
theorem fzAt_MZ {w : World} {k : Nat} {ob : Obj} (h : w.heap[k]? = some ob) : FzAt (MZ w) k ob := ⟨0, _, rfl, h⟩
theorem MZ_fzAt {w : World} {k : Nat} {ob : Obj} (h : FzAt (MZ w) k ob) : w.heap[k]? = some ob := by
  obtain ⟨i, pl, h1, h2⟩ := h
  cases i with
  | zero => simp [MZ] at h1; subst h1; exact h2
  | succ i => simp [MZ] at h1
theorem relH_Z (w : World) : RelH (MZ w) H0 (Base.at w.heap.size) w := by
  refine ⟨rfl, fun k hk => ⟨hk, trivial⟩, fun i o h => ?_, fun i j oi oj pi pj h => ?_, fun i o pl k h => ?_, fun i o pl h => ?_, fun k ob h => ?_, fun i o pl h => ?_, fun k hk h => absurd hk (Nat.not_le_of_lt h)⟩
  · cases i <;> simp [H0] at h
  · cases i <;> simp [H0] at h
  · cases i <;> simp [H0] at h
  · cases i <;> simp [H0] at h
  · have h1 := MZ_fzAt h
    exact ⟨h1, trivial, .inr (Array.getElem?_eq_some_iff.1 h1).1⟩
  · cases i <;> simp [H0] at h
section
variable {H : Type} {enc : TypeId × Value → H} {P : Program} {w : World} {held : Bool}
theorem row_in {t e : TypeId} {k : IntKind} {fuel : Nat} {cs : List Value} {x : DataW H × List MemPlace} (ht : P.underlying t = some (.slice e)) (he : P.underlying e = some (.int k)) (hc : P.cellsOf e = 1)
    (h : DataW.trod enc P w 0 (fun _ => true) held fuel t cs = some x) : ∃ l v, cs = [v] ∧ RowFz (MZ w) k 1 l v := by
  rcases open_ints ht he hc h with ⟨rfl, _⟩ | ⟨a, len, cap, zs, rfl, _, hl, hm, hz, _, hcell, hwz⟩
  · exact ⟨[], _, rfl, none, 0, 0, rfl, Nat.le_refl _, by simp, by rw [has_iff]; simp [loB, hiB], by simp, .inl rfl⟩
  · simp only [if_true] at hz
    refine ⟨zs.take len, _, rfl, some a, len, cap, rfl, hl, by simp; omega, ?_, fun z hz' => has_wf (hwz z (List.mem_of_mem_take hz')), ?_⟩
    · rw [has_iff]; simp only [loB, hiB]
      have : cap ≤ 9223372036854775807 := hm
      omega
    · by_cases hc0 : cap = 0
      · exact .inl hc0
      · right
        have c0 := hcell 0 (by omega)
        obtain ⟨c, el, fz, hg, _, hs⟩ := worldCell c0
        have hs := hs rfl
        have cell : ∀ i, i < zs.length → c[a.off + i]? = some (.int k (zs.getD i 0)) := by
          intro i hi
          obtain ⟨c', el', fz', hg', hc', _⟩ := worldCell (hcell i hi)
          rw [hg] at hg'
          cases hg'
          exact hc'
        have hsize : a.off + cap ≤ c.size := by
          have := cell (cap - 1) (by omega)
          have := (Array.getElem?_eq_some_iff.1 this).1
          omega
        refine ⟨a.block, a.off, c, el, fz, by cases a; simp_all, fzAt_MZ hg, by omega, ?_⟩
        rw [Nat.mul_one]
        apply List.ext_getElem?
        intro i
        by_cases hi : i < len
        · rw [List.getElem?_take, if_pos hi, List.getElem?_drop, List.getElem?_map, List.getElem?_take, if_pos hi]
          have := cell i (by omega)
          rw [Array.getElem?_toList, this, List.getElem?_eq_getElem (by omega)]
          simp [List.getD_eq_getElem?_getD, List.getElem?_eq_getElem (show i < zs.length by omega)]
        · rw [List.getElem?_take, if_neg hi, List.getElem?_map, List.getElem?_take, if_neg hi]
          rfl
theorem elems_in {t e : TypeId} {k : EK} {fuel : Nat} {cs : List Value} {x : DataW H × List MemPlace} (ht : P.underlying t = some (.slice e)) (hc : P.cellsOf e = k.w)
    (hel : ∀ n cs x, DataW.trod enc P w 0 (fun _ => true) held n e cs = some x → ∃ y, k.rel (MZ w) y cs) (h : DataW.trod enc P w 0 (fun _ => true) held fuel t cs = some x) :
    ∃ l v, cs = [v] ∧ SlFz (MZ w) k.w (k.rel (MZ w)) l v := by
  have hw := k.w_pos
  rcases open_slice ht h with ⟨rfl, _⟩ | ⟨a, len, cap, m, n, D, Pl, rfl, _, hl, hm, hmm, _, hx⟩
  · exact ⟨[], _, rfl, none, 0, 0, rfl, Nat.le_refl _, rfl, by rw [has_iff]; simp [loB, hiB], .inl rfl⟩
  · simp only [if_true] at hmm
    subst hmm
    rw [hc] at hx
    haveI : Inhabited k.den := ⟨k.dflt⟩
    obtain ⟨Y, hY⟩ := choose_lt (α := k.den) (n := len) (p := fun i y => ∃ cs', w.cells? 0 (a.add (i * k.w)) k.w = some cs' ∧ k.rel (MZ w) y cs') (fun i hi => by
      obtain ⟨cs', h1, h2⟩ := hx i (by omega)
      obtain ⟨y, hy⟩ := hel _ _ _ h2
      exact ⟨y, cs', h1, hy⟩)
    have hi64 : IntKind.i64.has (len : Int) := by
      rw [has_iff]; simp only [loB, hiB]
      have : m ≤ 9223372036854775807 := hm
      omega
    refine ⟨(List.range len).map Y, _, rfl, some a, len, m, rfl, hl, by simp, hi64, ?_⟩
    by_cases h0 : len = 0
    · exact .inl h0
    · right
      have cellAtIx : ∀ i j, i < len → j < k.w → ∃ cs' v, w.cells? 0 (a.add (i * k.w)) k.w = some cs' ∧ cs'[j]? = some v ∧ w.cell? (a.add (i * k.w + j)) = some v := by
        intro i j hi hj
        obtain ⟨cs', h1, _⟩ := hY i hi
        obtain ⟨_, h2, h3⟩ := World.cells?_some h1
        have h4 := h3 j hj
        rw [add_add] at h4
        have h5 : cs'[j]? = some (cs'[j]'(by omega)) := List.getElem?_eq_getElem (by omega)
        exact ⟨cs', _, h1, h5, by rw [h4, h5]⟩
      obtain ⟨_, v0, _, _, c0⟩ := cellAtIx 0 0 (by omega) hw
      rw [Nat.zero_mul, Nat.zero_add] at c0
      obtain ⟨c, el, fz, hg, _, hs⟩ := worldCell c0
      have hs := hs rfl
      have cell : ∀ i j, i < len → j < k.w → ∃ cs' v, w.cells? 0 (a.add (i * k.w)) k.w = some cs' ∧ cs'[j]? = some v ∧ c[a.off + (i * k.w + j)]? = some v := by
        intro i j hi hj
        obtain ⟨cs', v, h1, h2, h3⟩ := cellAtIx i j hi hj
        obtain ⟨c', el', fz', hg', hc', _⟩ := worldCell h3
        rw [hg] at hg'
        cases hg'
        exact ⟨cs', v, h1, h2, hc'⟩
      have hsize : a.off + len * k.w ≤ c.size := by
        obtain ⟨_, _, _, _, h3⟩ := cell (len - 1) (k.w - 1) (by omega) (by omega)
        have h4 := (Array.getElem?_eq_some_iff.1 h3).1
        have h5 : (len - 1) * k.w + k.w = len * k.w := by
          rw [← Nat.succ_mul]
          congr 1
          omega
        omega
      refine ⟨a.block, a.off, c, el, fz, by cases a; simp_all, fzAt_MZ hg, hsize, fun i y hy => ?_⟩
      have hi : i < len := by
        have := (List.getElem?_eq_some_iff.1 hy).1
        simpa using this
      simp only [List.getElem?_map, List.getElem?_range hi, Option.map_some, Option.some.injEq] at hy
      subst hy
      obtain ⟨cs', h1, h2⟩ := hY i hi
      have hlen := (World.cells?_some h1).2.1
      have : (c.toList.drop (a.off + i * k.w)).take k.w = cs' := by
        apply List.ext_getElem?
        intro j
        by_cases hj : j < k.w
        · obtain ⟨cs2, v, g1, g2, g3⟩ := cell i j hi hj
          rw [h1] at g1
          cases g1
          rw [List.getElem?_take, if_pos hj, List.getElem?_drop, Array.getElem?_toList, Nat.add_assoc, g3, g2]
        · rw [List.getElem?_take, if_neg hj, List.getElem?_eq_none (by omega)]
      rw [this]
      exact h2
theorem string_in {t : TypeId} {n : Nat} {cs : List Value} {x : DataW H × List MemPlace} (ht : P.underlying t = some .string) (h : DataW.trod enc P w 0 (fun _ => true) held n t cs = some x) :
    ∃ l : List Int, cs = [.string (mkS l)] ∧ IsBytes l ∧ IntKind.i64.has (l.length : Int) := by
  obtain ⟨s, rfl, _, hs⟩ := DataW.trod_string ht h
  refine ⟨bytesL s, by rw [mkS_bytesL], bytesL_has s, ?_⟩
  have e : (bytesL s).length = s.size := by
    unfold bytesL
    rw [List.length_map, Array.length_toList]
    rfl
  rw [e, has_iff]
  simp only [loB, hiB]
  have : s.size ≤ 9223372036854775807 := hs
  omega
def ekOk (P : Program) : EK → TypeId → Bool
  | .row k sz, e => match P.underlying e with
    | some (.slice e2) => decide (sz = 1) && (match P.underlying e2 with | some (.int k') => decide (k' = k) && decide (P.cellsOf e2 = 1) | _ => false)
    | _ => false
  | .pair, e => match P.underlying e with
    | some (.struct fs) => match fs.toList with
      | [f1, f2] => decide (f1.offset = 0) && decide (f2.offset = 1) && decide (P.cellsOf f1.type = 1) && decide (P.cellsOf f2.type = 1) && decide (P.cellsOf e = 2) &&
          (match P.underlying f1.type, P.underlying f2.type with | some .string, some .string => true | _, _ => false)
      | _ => false
    | _ => false
  | _, _ => false
theorem ek_in {k : EK} {e : TypeId} (hk : ekOk P k e = true) : ∀ n cs x, DataW.trod enc P w 0 (fun _ => true) held n e cs = some x → ∃ y, k.rel (MZ w) y cs := by
  intro n cs x h
  unfold ekOk at hk
  split at hk
  · rename_i kd sz e'
    split at hk
    · rename_i e2 hu
      simp only [Bool.and_eq_true, decide_eq_true_eq] at hk
      obtain ⟨rfl, hk⟩ := hk
      split at hk
      · rename_i k' hu2
        simp only [Bool.and_eq_true, decide_eq_true_eq] at hk
        obtain ⟨rfl, hk⟩ := hk
        obtain ⟨l, v, e1, e2⟩ := row_in hu hu2 hk h
        exact ⟨l, v, e1, e2⟩
      · cases hk
    · cases hk
  · rename_i e'
    split at hk
    · rename_i fs hu
      split at hk
      · rename_i f1 f2 hfs
        simp only [Bool.and_eq_true, decide_eq_true_eq] at hk
        obtain ⟨⟨⟨⟨⟨o1, o2⟩, c1⟩, c2⟩, c3⟩, hstr⟩ := hk
        split at hstr
        · rename_i u1 u2
          obtain ⟨xs, m, _, _, hlen, hxl, hall⟩ := DataW.trod_struct hu h
          rw [c3] at hlen
          have a1 := hall 0 f1 (by rw [← Array.getElem?_toList, hfs]; rfl)
          have a2 := hall 1 f2 (by rw [← Array.getElem?_toList, hfs]; rfl)
          rw [o1, c1] at a1
          rw [o2, c2] at a2
          have hfs2 : fs.size = 2 := by rw [← Array.length_toList, hfs]; rfl
          rw [List.getElem?_eq_getElem (show 0 < xs.length by omega)] at a1
          rw [List.getElem?_eq_getElem (show 1 < xs.length by omega)] at a2
          obtain ⟨l1, e1, b1, i1⟩ := string_in u1 a1
          obtain ⟨l2, e2, b2, i2⟩ := string_in u2 a2
          have hcs : cs = [.string (mkS l1), .string (mkS l2)] := by
            match cs, hlen, e1, e2 with
            | [p, q], _, e1, e2 => simp at e1 e2; rw [e1, e2]
          exact ⟨(l1, l2), hcs, ⟨b1, b2⟩, i1, i2⟩
        · cases hstr
      · cases hk
    · cases hk
  · cases hk
theorem mkCs_app {cs2 : List CTy} (d2 : DC cs2) : ∀ (cs1 : List CTy) (d1 : DC cs1), ∃ d : DC (cs1 ++ cs2), mkCs cs1 d1 ++ mkCs cs2 d2 = mkCs (cs1 ++ cs2) d
  | [], d1 => ⟨d2, rfl⟩
  | t :: r, d1 => by
    obtain ⟨d, e⟩ := mkCs_app d2 r d1.2
    refine ⟨(d1.1, d), ?_⟩
    show mk1 t d1.1 :: (mkCs r d1.2 ++ mkCs cs2 d2) = mk1 t d1.1 :: mkCs (r ++ cs2) d
    rw [e]
def tyFs (P : Program) (f : TypeId → Option (List CTy)) : List Field → Nat → Option (List CTy × Nat)
  | [], off => some ([], off)
  | g :: r, off => if g.offset = off then
      match f g.type, tyFs P f r (off + P.cellsOf g.type) with
      | some a, some (b, e) => some (a ++ b, e)
      | _, _ => none
    else none
def tyCs (P : Program) : Nat → TypeId → Option (List CTy)
  | 0, _ => none
  | n + 1, t => match P.underlying t with
    | some (.int k) => some [.int k]
    | some .bool => some [.bool]
    | some .string => some [.str]
    | some (.slice e) =>
      if ekOk P (.row .u8 1) e = true ∧ P.cellsOf e = 1 then some [.dsl (.row .u8 1)]
      else if ekOk P .pair e = true ∧ P.cellsOf e = 2 then some [.dsl .pair] else none
    | some (.struct fs) => match tyFs P (tyCs P n) fs.toList 0 with
      | some (cs, e) => if e = P.cellsOf t then some cs else none
      | none => none
    | some (.array m e) => match tyCs P n e with
      | some cs => if P.cellsOf t = m * P.cellsOf e then some (List.replicate m cs).flatten else none
      | none => none
    | _ => none
theorem fs_in {f : TypeId → Option (List CTy)} {vs : List Value} {m : Nat} (hf : ∀ t cs, f t = some cs → ∀ us x, DataW.trod enc P w 0 (fun _ => true) held m t us = some x → ∃ d : DC cs, RelC (MZ w) (mkCs cs d) us) :
    ∀ (fs : List Field) (off : Nat) (cs : List CTy) (e : Nat), tyFs P f fs off = some (cs, e) → (∀ g ∈ fs, ∃ y, DataW.trod enc P w 0 (fun _ => true) held m g.type ((vs.drop g.offset).take (P.cellsOf g.type)) = some y) → e = vs.length →
      ∃ d : DC cs, RelC (MZ w) (mkCs cs d) (vs.drop off)
  | [], off, cs, e, h, _, he => by
    simp only [tyFs, Option.some.injEq, Prod.mk.injEq] at h
    obtain ⟨rfl, rfl⟩ := h
    exact ⟨(), RelC_nil.2 (by rw [he]; simp)⟩
  | g :: r, off, cs, e, h, hg, he => by
    simp only [tyFs] at h
    split at h
    · rename_i ho
      split at h
      · rename_i a b e' ha hb
        simp only [Option.some.injEq, Prod.mk.injEq] at h
        obtain ⟨rfl, rfl⟩ := h
        obtain ⟨y, hy⟩ := hg g (List.mem_cons_self ..)
        rw [ho] at hy
        obtain ⟨d1, r1⟩ := hf _ _ ha _ _ hy
        obtain ⟨d2, r2⟩ := fs_in hf r _ _ _ hb (fun g' hg' => hg g' (List.mem_cons_of_mem _ hg')) he
        obtain ⟨d, ed⟩ := mkCs_app d2 _ d1
        refine ⟨d, ?_⟩
        rw [← ed, ← List.take_append_drop (P.cellsOf g.type) (vs.drop off), List.drop_drop]
        exact RelC_append r1 r2
      · cases h
    · cases h
theorem arr_in {cs : List CTy} {vs : List Value} {c N : Nat} (hl : vs.length = N * c) (hf : ∀ i, i < N → ∃ d : DC cs, RelC (MZ w) (mkCs cs d) ((vs.drop (i * c)).take c)) :
    ∀ k i, i + k = N → ∃ d : DC (List.replicate k cs).flatten, RelC (MZ w) (mkCs _ d) (vs.drop (i * c))
  | 0, i, h => ⟨(), RelC_nil.2 (by rw [List.drop_eq_nil_iff, hl]; subst h; simp)⟩
  | k + 1, i, h => by
    obtain ⟨d1, r1⟩ := hf i (by omega)
    obtain ⟨d2, r2⟩ := arr_in hl hf k (i + 1) (by omega)
    obtain ⟨d, ed⟩ := mkCs_app d2 _ d1
    refine ⟨d, ?_⟩
    show RelC (MZ w) (mkCs (cs ++ (List.replicate k cs).flatten) d) _
    rw [← ed, ← List.take_append_drop c (vs.drop (i * c)), List.drop_drop, show i * c + c = (i + 1) * c by rw [Nat.succ_mul]]
    exact RelC_append r1 r2
theorem cs_in : ∀ (n : Nat) (t : TypeId) (cs : List CTy), tyCs P n t = some cs → ∀ (m : Nat) (vs : List Value) x, DataW.trod enc P w 0 (fun _ => true) held m t vs = some x → ∃ d : DC cs, RelC (MZ w) (mkCs cs d) vs
  | 0, t, cs, h, m, vs, x, hx => by cases h
  | n + 1, t, cs, h, m, vs, x, hx => by
    simp only [tyCs] at h
    split at h
    · rename_i k hu
      cases h
      obtain ⟨z, rfl, _, hw⟩ := DataW.trod_int hu hx
      exact ⟨(z, ()), RelC_single.2 (RelX_int.2 ⟨rfl, has_wf hw, fun m hm => by cases hm⟩)⟩
    · rename_i hu
      cases h
      obtain ⟨b, rfl, _⟩ := DataW.trod_bool hu hx
      exact ⟨(b, ()), RelC_single.2 (by simp [mk1, RelX])⟩
    · rename_i hu
      cases h
      obtain ⟨l, rfl, h1, h2⟩ := string_in hu hx
      exact ⟨(l, ()), RelC_single.2 (by simp only [mk1, RelX, true_and]; exact ⟨h1, h2⟩)⟩
    · rename_i e hu
      split at h
      · rename_i hk
        cases h
        obtain ⟨l, v, rfl, hs⟩ := elems_in (k := .row .u8 1) hu hk.2 (ek_in hk.1) hx
        exact ⟨(l, ()), RelC_single.2 (by simp only [mk1, RelX]; exact ⟨v, rfl, hs⟩)⟩
      · split at h
        · rename_i hk
          cases h
          obtain ⟨l, v, rfl, hs⟩ := elems_in (k := .pair) hu hk.2 (ek_in hk.1) hx
          exact ⟨(l, ()), RelC_single.2 (by simp only [mk1, RelX]; exact ⟨v, rfl, hs⟩)⟩
        · cases h
    · rename_i fs hu
      split at h
      · rename_i cs' e hfs
        split at h
        · rename_i he
          cases h
          obtain ⟨xs, m', rfl, _, hlen, hxl, hall⟩ := DataW.trod_struct hu hx
          have := fs_in (vs := vs) (m := m') (fun t cs h us x hx => cs_in n t cs h m' us x hx) fs.toList 0 _ _ hfs (fun g hg => by
            obtain ⟨i, hi, hgi⟩ := List.mem_iff_getElem.1 hg
            have h1 := hall i g (by rw [← Array.getElem?_toList, List.getElem?_eq_getElem hi, hgi])
            simp only [Array.length_toList] at hi
            rw [List.getElem?_eq_getElem (by omega)] at h1
            exact ⟨_, h1⟩) (by rw [he, hlen])
          simpa using this
        · cases h
      · cases h
    · rename_i N e hu
      split at h
      · rename_i cs' he
        split at h
        · rename_i hc
          cases h
          obtain ⟨xs, m', rfl, _, hlen, hxl, hall⟩ := DataW.trod_array hu hx
          have := arr_in (w := w) (cs := cs') (vs := vs) (c := P.cellsOf e) (N := N) (by rw [hlen, hc]) (fun i hi => by
            have h1 := hall i hi
            rw [List.getElem?_eq_getElem (by omega)] at h1
            exact cs_in n e cs' he m' _ _ h1) N 0 (by omega)
          simpa using this
        · cases h
      · cases h
    · cases h
end
def EK.wf : (e : EK) → e.den → Prop
  | .row k sz, l => (∀ z ∈ (l : List Int), k.has z) ∧ (sz = 1 → IntKind.i64.has ((l : List Int).length : Int))
  | .pair, x => (IsBytes x.1 ∧ IntKind.i64.has (x.1.length : Int)) ∧ IsBytes x.2 ∧ IntKind.i64.has (x.2.length : Int)
  | _, _ => True
def wf1 : (t : CTy) → t.den → Prop
  | .int k, x => k.has x
  | .str, l => IsBytes l ∧ IntKind.i64.has ((l : List Int).length : Int)
  | .dsl e, l => IntKind.i64.has (List.length (α := e.den) l : Int) ∧ ∀ x ∈ (l : List e.den), e.wf x
  | _, _ => True
def wfD : (cs : List CTy) → DC cs → Prop
  | [], _ => True
  | t :: r, d => wf1 t d.1 ∧ wfD r d.2
theorem ek_wf {M : List Place} {e : EK} {x : e.den} {a : List Value} (h : e.rel M x a) : e.wf x := by
  cases e with
  | row k sz =>
    obtain ⟨v, _, A, len, cap, _, _, hl, hi, hk, _⟩ := h
    refine ⟨hk, fun h1 => ?_⟩
    subst h1
    rw [hl, Nat.mul_one]
    exact hi
  | pair =>
    obtain ⟨_, ⟨h1, h2⟩, h3, h4⟩ := h
    exact ⟨⟨h1, h3⟩, h2, h4⟩
  | img k sz => trivial
  | deep e => trivial
theorem wfD_rel {M : List Place} : ∀ {cs : List CTy} {d : DC cs} {vs : List Value}, RelC M (mkCs cs d) vs → wfD cs d
  | [], d, vs, h => trivial
  | t :: r, d, vs, h => by
    obtain ⟨a, b, rfl, h1, h2⟩ := RelC_cons.1 h
    refine ⟨?_, wfD_rel h2⟩
    cases t with
    | int k => exact (RelX_int.1 h1).2.1
    | bool => trivial
    | is k n => trivial
    | fsl k sz => trivial
    | str =>
      simp only [mk1, RelX] at h1
      exact ⟨h1.2.1, h1.2.2⟩
    | dsl e =>
      simp only [mk1, RelX] at h1
      obtain ⟨v, _, A, len, cap, _, _, hl, hi, hz⟩ := h1
      have hl : List.length (α := e.den) d.1 = len := hl
      refine ⟨by rw [hl]; exact hi, fun x hx => ?_⟩
      rcases hz with hz | ⟨blk, off, c, el, fz, _, _, _, hall⟩
      · have : (d.1 : List e.den) = [] := List.length_eq_zero_iff.1 (by rw [hl, hz])
        rw [this] at hx
        cases hx
      · obtain ⟨i, hi', hxi⟩ := List.mem_iff_getElem.1 hx
        exact ek_wf (hall i x (by rw [List.getElem?_eq_getElem hi', hxi]))
theorem agg_in {H : Type} {enc : TypeId × Value → H} {P : Program} {w : World} {held : Bool} {r : Reach} {base : Nat} {t : TypeId} {v : Value} {n : Nat} {cs : List CTy} {dd : DataW H} {p : List MemPlace}
    (hu : (match P.underlying t with | some (.struct _) | some (.array _ _) => true | _ => false) = true) (hk : tyCs P n t = some cs) (hv : Value.okWide P w r base t v) (h : DataW.Trod enc P w 0 (fun _ => true) held t v dd p) :
    ∃ d : DC cs, wfD cs d ∧ RelV (MZ w) (.agg (mkCs cs d)) v := by
  have h' : ∃ xs : Array Value, v = .agg xs := by
    unfold Value.okWide at hv
    split at hu
    · rename_i hq; rw [hq] at hv; obtain ⟨xs, e, _⟩ := hv; exact ⟨xs, e⟩
    · rename_i hq; rw [hq] at hv; obtain ⟨xs, e, _⟩ := hv; exact ⟨xs, e⟩
    · cases hu
  obtain ⟨xs, rfl⟩ := h'
  obtain ⟨m, hm⟩ := h
  obtain ⟨d, hd⟩ := cs_in n t cs hk m _ _ hm
  have hd : RelC (MZ w) (mkCs cs d) xs.toList := hd
  exact ⟨d, wfD_rel hd, RelX_agg.2 ⟨xs, rfl, hd⟩⟩
end Go.AE
set_option linter.unusedSimpArgs false
set_option linter.unusedVariables false
namespace Go.AE.Gn
open Go Go.AE
def slices_Clone_byte_byte (F : Nat) (a0 : List Int) : Option (List Int × Unit) := cloneF 1 a0
def ref01_Same_l0S (F : Nat) (rec : List Int → List Int → Int → Option (Unit ⊕ Unit)) (x0 : List Int) (x1 : List Int) (x2 : Int) : Option (Unit ⊕ Unit) :=
  let v720 : Int := (((List.length x0) : Nat) : Int)
  cond (decide (x2 < v720))
    (cond ((decide ((0 : Int) ≤ x2)) && (decide (x2 < (((List.length x0) : Nat) : Int))))
      (cond ((decide ((0 : Int) ≤ x2)) && (decide (x2 < (((List.length x1) : Nat) : Int))))
        (cond ((List.getD x0 (Int.toNat x2) (0 : Int)) != (List.getD x1 (Int.toNat x2) (0 : Int)))
          (some (.inl ()))
          (rec x0 x1 (IntKind.wrap .i64 (x2 + (1 : Int)))))
        (none))
      (none))
    (some (.inr ()))
def ref01_Same_l0 (F : Nat) : Nat → List Int → List Int → Int → Option (Unit ⊕ Unit)
  | 0, _, _, _ => none
  | k + 1, x0, x1, x2 => ref01_Same_l0S F (ref01_Same_l0 F k) x0 x1 x2
def ref01_Same (F : Nat) (a0 : List Int) (a1 : List Int) : Option (Bool × Unit) :=
  cond ((((List.length a0) : Nat) : Int) != (((List.length a1) : Nat) : Int))
    (some (false, ()))
    ((ref01_Same_l0 F F a0 a1 (0 : Int)).bind fun r729 => match r729 with
      | .inl r729 => (some (false, ()))
      | .inr r729 => (some (true, ())))
end Go.AE.Gn
set_option linter.unusedSimpArgs false
set_option linter.unusedVariables false
namespace Go.AE.Gn
open Go Go.AE
def bctable_WeightsT6 : List Int := [0, 9, 18, 27, 37, 46, 55, 64]
def bctable_WeightsT7 : List Int := [0, 4, 9, 13, 17, 21, 26, 30, 34, 38, 43, 47, 51, 55, 60, 64]
end Go.AE.Gn
set_option linter.unusedSimpArgs false
set_option linter.unusedVariables false
namespace Go.AE.Gn
open Go Go.AE
def etctwo_DistanceT1261 : List Int := [3, 6, 11, 16, 23, 32, 41, 64]
end Go.AE.Gn
set_option linter.unusedSimpArgs false
set_option linter.unusedVariables false
namespace Go.AE.Gn
open Go Go.AE
def format_Of (F : Nat) (a0 : Int) : Option ((Int × (Int × (Bool × Unit))) × (Int × Unit)) :=
  cond (a0 == (1 : Int))
    (some (((8 : Int), ((7 : Int), (false, ()))), ((0 : Int), ())))
    (cond (a0 == (7 : Int))
      (some (((8 : Int), ((7 : Int), (false, ()))), ((0 : Int), ())))
      (cond (a0 == (8 : Int))
        (some (((8 : Int), ((7 : Int), (false, ()))), ((0 : Int), ())))
        (cond (a0 == (2 : Int))
          (some (((16 : Int), ((15 : Int), (false, ()))), ((0 : Int), ())))
          (cond (a0 == (3 : Int))
            (some (((16 : Int), ((15 : Int), (false, ()))), ((0 : Int), ())))
            (cond (a0 == (6 : Int))
              (some (((16 : Int), ((15 : Int), (false, ()))), ((0 : Int), ())))
              (cond (a0 == (10 : Int))
                (some (((16 : Int), ((15 : Int), (false, ()))), ((0 : Int), ())))
                (cond (a0 == (9 : Int))
                  (some (((8 : Int), ((15 : Int), (false, ()))), ((0 : Int), ())))
                  (cond (a0 == (4 : Int))
                    (some (((8 : Int), ((1 : Int), ((a0 == (11 : Int)), ()))), ((0 : Int), ())))
                    (let b12 : Bool := (a0 == (11 : Int))
                    cond b12
                      (some (((8 : Int), ((1 : Int), (b12, ()))), ((0 : Int), ())))
                      (cond (a0 == (5 : Int))
                        (some (((16 : Int), ((3 : Int), ((a0 == (12 : Int)), ()))), ((0 : Int), ())))
                        (let b15 : Bool := (a0 == (12 : Int))
                        cond b15
                          (some (((16 : Int), ((3 : Int), (b15, ()))), ((0 : Int), ())))
                          (some (((0 : Int), ((0 : Int), (false, ()))), ((5 : Int), ()))))))))))))))
def image_Tiles (F : Nat) (a0 : Int) (a1 : Int) : Option (Int × (Int × Unit)) :=
  cond (decide (a0 < (1 : Int)))
    (some ((0 : Int), ((0 : Int), ())))
    (cond (decide (a1 < (1 : Int)))
      (some ((0 : Int), ((0 : Int), ())))
      (some ((IntKind.wrap .i64 ((IntKind.wrap .i64 (Int.tdiv (IntKind.wrap .i64 (a0 - (1 : Int))) (4 : Int))) + (1 : Int))), ((IntKind.wrap .i64 ((IntKind.wrap .i64 (Int.tdiv (IntKind.wrap .i64 (a1 - (1 : Int))) (4 : Int))) + (1 : Int))), ()))))
def field_Times (F : Nat) (a0 : Int) (a1 : Int) : Option (Int × (Int × Unit)) :=
  cond (decide (a0 < (0 : Int)))
    (some ((0 : Int), ((1 : Int), ())))
    (cond (decide (a1 < (0 : Int)))
      (some ((0 : Int), ((1 : Int), ())))
      (cond (decide ((0 : Int) < a1))
        (cond (!(a1 == (0 : Int)))
          (let v3417 : Int := (IntKind.wrap .i64 (Int.tdiv (2147483647 : Int) a1))
          cond (decide (v3417 < a0))
            (some ((0 : Int), ((10 : Int), ())))
            (some ((IntKind.wrap .i64 (a0 * a1)), ((0 : Int), ()))))
          (none))
        (some ((IntKind.wrap .i64 (a0 * a1)), ((0 : Int), ())))))
def format_Bytes (F : Nat) (a0 : Int) (a1 : Int) (a2 : Int) : Option (Int × (Int × Unit)) :=
  (format_Of F a0).bind fun r3400 =>
  cond (r3400.2.1 != (0 : Int))
    (some ((0 : Int), (r3400.2.1, ())))
    (cond (decide (a1 < (1 : Int)))
      (some ((0 : Int), ((1 : Int), ())))
      (cond (decide (a2 < (1 : Int)))
        (some ((0 : Int), ((1 : Int), ())))
        ((image_Tiles F a1 a2).bind fun r3412 =>
        (field_Times F r3412.1 r3412.2.1).bind fun r3421 =>
        cond (r3421.2.1 != (0 : Int))
          (some ((0 : Int), (r3421.2.1, ())))
          ((field_Times F r3421.1 r3400.1.1).bind fun r3423 =>
          some (r3423.1, (r3423.2.1, ()))))))
end Go.AE.Gn
set_option linter.unusedSimpArgs false
set_option linter.unusedVariables false
namespace Go.AE.Gn
open Go Go.AE
def ref13_Of (F : Nat) (a0 : Int) : Option ((Int × (Int × (Bool × Unit))) × (Int × Unit)) :=
  cond (decide (a0 < (1 : Int)))
    (some (((0 : Int), ((0 : Int), (false, ()))), ((5 : Int), ())))
    (cond (decide ((12 : Int) < a0))
      (some (((0 : Int), ((0 : Int), (false, ()))), ((5 : Int), ())))
      (cond (a0 == (0 : Int))
        (some (((0 : Int), ((0 : Int), (false, ()))), ((0 : Int), ())))
        (cond (a0 == (1 : Int))
          (some (((8 : Int), ((7 : Int), (false, ()))), ((0 : Int), ())))
          (cond (a0 == (2 : Int))
            (some (((16 : Int), ((15 : Int), (false, ()))), ((0 : Int), ())))
            (cond (a0 == (3 : Int))
              (some (((16 : Int), ((15 : Int), (false, ()))), ((0 : Int), ())))
              (cond (a0 == (4 : Int))
                (some (((8 : Int), ((1 : Int), (false, ()))), ((0 : Int), ())))
                (cond (a0 == (5 : Int))
                  (some (((16 : Int), ((3 : Int), (false, ()))), ((0 : Int), ())))
                  (cond (a0 == (6 : Int))
                    (some (((16 : Int), ((15 : Int), (false, ()))), ((0 : Int), ())))
                    (cond (a0 == (7 : Int))
                      (some (((8 : Int), ((7 : Int), (false, ()))), ((0 : Int), ())))
                      (cond (a0 == (8 : Int))
                        (some (((8 : Int), ((7 : Int), (false, ()))), ((0 : Int), ())))
                        (cond (a0 == (9 : Int))
                          (some (((8 : Int), ((15 : Int), (false, ()))), ((0 : Int), ())))
                          (cond (a0 == (10 : Int))
                            (some (((16 : Int), ((15 : Int), (false, ()))), ((0 : Int), ())))
                            (cond (a0 == (11 : Int))
                              (some (((8 : Int), ((1 : Int), (true, ()))), ((0 : Int), ())))
                              (cond (a0 == (12 : Int))
                                (some (((16 : Int), ((3 : Int), (true, ()))), ((0 : Int), ())))
                                (none)))))))))))))))
def ref04_Tiles (F : Nat) (a0 : Int) (a1 : Int) : Option (Int × (Int × Unit)) :=
  cond (decide (a0 < (1 : Int)))
    (some ((0 : Int), ((0 : Int), ())))
    (cond (decide (a1 < (1 : Int)))
      (some ((0 : Int), ((0 : Int), ())))
      (some ((IntKind.wrap .i64 ((IntKind.wrap .i64 (Int.tdiv (IntKind.wrap .i64 (a0 - (1 : Int))) (4 : Int))) + (1 : Int))), ((IntKind.wrap .i64 ((IntKind.wrap .i64 (Int.tdiv (IntKind.wrap .i64 (a1 - (1 : Int))) (4 : Int))) + (1 : Int))), ()))))
def ref01_Times (F : Nat) (a0 : Int) (a1 : Int) : Option (Int × (Int × Unit)) :=
  cond (decide (a0 < (0 : Int)))
    (some ((0 : Int), ((1 : Int), ())))
    (cond (decide (a1 < (0 : Int)))
      (some ((0 : Int), ((1 : Int), ())))
      (cond (a0 == (0 : Int))
        (some ((0 : Int), ((0 : Int), ())))
        (cond (a1 == (0 : Int))
          (some ((0 : Int), ((0 : Int), ())))
          (cond (!(a1 == (0 : Int)))
            (let v3688 : Int := (IntKind.wrap .i64 (Int.tdiv (2147483647 : Int) a1))
            cond (decide (v3688 < a0))
              (some ((0 : Int), ((10 : Int), ())))
              (some ((IntKind.wrap .i64 (a0 * a1)), ((0 : Int), ()))))
            (none)))))
def ref13_Bytes (F : Nat) (a0 : Int) (a1 : Int) (a2 : Int) : Option (Int × (Int × Unit)) :=
  (ref13_Of F a0).bind fun r3670 =>
  cond (r3670.2.1 != (0 : Int))
    (some ((0 : Int), (r3670.2.1, ())))
    (cond (decide (a1 < (1 : Int)))
      (some ((0 : Int), ((1 : Int), ())))
      (cond (decide (a2 < (1 : Int)))
        (some ((0 : Int), ((1 : Int), ())))
        ((ref04_Tiles F a1 a2).bind fun r3682 =>
        (ref01_Times F r3682.1 r3682.2.1).bind fun r3691 =>
        cond (r3691.2.1 != (0 : Int))
          (some ((0 : Int), (r3691.2.1, ())))
          ((ref01_Times F r3691.1 r3670.1.1).bind fun r3693 =>
          some (r3693.1, (r3693.2.1, ()))))))
end Go.AE.Gn
set_option linter.unusedSimpArgs false
set_option linter.unusedVariables false
namespace Go.AE.Gn
open Go Go.AE
def law17_awakeT0 : List Int := [0, 0, 0, 0, 0, 0, 0, 0, 0, 0, 0, 0, 0, 0, 0, 0]
def law17_awakeT1 : List Int := [0, 0, 0, 0, 0, 0, 0, 0]
def mip_half (F : Nat) (a0 : Int) : Option (Int × Unit) :=
  some ((max (IntKind.wrap .i64 (Int.tdiv a0 (2 : Int))) (1 : Int)), ())
def mip_sizes_c1 (F : Nat) (a0 : Int) (a1 : Int) : Option (List (Int × Int)) := sizesL (mip_half F) F a0 a1
def mip_Levels_r (F : Nat) (x : Int × Int) (x0 : Int) : Option ((Int × Unit) ⊕ Unit) :=
  some (.inl ((IntKind.wrap .i64 (x0 + (1 : Int))), ()))
def mip_Levels (F : Nat) (a0 : Int) (a1 : Int) : Option (Int × Unit) :=
  (mip_sizes_c1 F a0 a1).bind fun l25 =>
  (runL (fun x => u1 (mip_Levels_r F x)) l25 ((0 : Int), ())).bind fun r26 => match r26 with
    | .inl r26 => (some (r26.1, ()))
    | .inr r26 => (none)
def mip_Side_r (F : Nat) (x : Int × Int) (x0 : Int) (x1 : Int) : Option ((Int × (Int × Unit)) ⊕ (Int × Unit)) :=
  cond (x0 == (0 : Int))
    (some (.inr (x.1, ())))
    (some (.inl ((IntKind.wrap .i64 (x0 - (1 : Int))), (x.1, ()))))
def mip_Side (F : Nat) (a0 : Int) (a1 : Int) : Option (Int × Unit) :=
  cond (decide (a1 < (0 : Int)))
    (some ((0 : Int), ()))
    ((mip_sizes_c1 F a0 (1 : Int)).bind fun l36 =>
    (runL (fun x => u2 (mip_Side_r F x)) l36 (a1, ((0 : Int), ()))).bind fun r37 => match r37 with
      | .inl r37 => (some (r37.2.1, ()))
      | .inr r37 => (some (r37.1, ())))
def layout_levels_c1 (F : Nat) (a0 : Int) (a1 : Int) (a2 : Int) : Option (List (Int × Int)) := levelsL (mip_Side F) F a0 0 a1 a2
def layout_Sizes_r (F : Nat) (x : Int × Int) (x0 : Int) (x1 : List Int) : Option ((Int × (List Int × Unit)) ⊕ (Int × Unit)) :=
  (format_Bytes F x0 x.1 x.2).bind fun r95 =>
  cond (r95.2.1 != (0 : Int))
    (some (.inr (r95.2.1, ())))
    (cond ((decide (((List.length x1) + 1) ≤ 1099511627776)) && true)
      (some (.inl (x0, ((x1 ++ [r95.1]), ()))))
      (none))
def layout_Sizes (F : Nat) (a0 : Int) (a1 : Int) (a2 : Int) (a3 : Int) : Option (List Int × (Int × Unit)) :=
  (format_Of F a0).bind fun r79 =>
  cond (r79.2.1 != (0 : Int))
    (some ([], (r79.2.1, ())))
    (cond (decide (a1 < (1 : Int)))
      (some ([], ((1 : Int), ())))
      (cond (decide (a2 < (1 : Int)))
        (some ([], ((1 : Int), ())))
        (cond (decide (a3 < (1 : Int)))
          (some ([], ((1 : Int), ())))
          ((mip_Levels F a1 a2).bind fun r84 =>
          cond (decide (r84.1 < a3))
            (some ([], ((1 : Int), ())))
            ((layout_levels_c1 F a3 a1 a2).bind fun l100 =>
            (runL (fun x => u2 (layout_Sizes_r F x)) l100 (a0, ([], ()))).bind fun r101 => match r101 with
              | .inl r101 => (some (r101.2.1, ((0 : Int), ())))
              | .inr r101 => (some ([], (r101.1, ()))))))))
def field_Sum (F : Nat) (a0 : Int) (a1 : Int) : Option (Int × (Int × Unit)) :=
  cond (decide (a0 < (0 : Int)))
    (some ((0 : Int), ((1 : Int), ())))
    (cond (decide (a1 < (0 : Int)))
      (some ((0 : Int), ((1 : Int), ())))
      (cond (decide ((2147483647 : Int) < a0))
        (some ((0 : Int), ((10 : Int), ())))
        (let v114 : Int := (IntKind.wrap .i64 ((2147483647 : Int) - a0))
        cond (decide (v114 < a1))
          (some ((0 : Int), ((10 : Int), ())))
          (some ((IntKind.wrap .i64 (a0 + a1)), ((0 : Int), ()))))))
def layout_Texels_r (F : Nat) (x : Int × Int) (x0 : Int) (x1 : Int) (x2 : Int) (x3 : Int) (x4 : Int) (x5 : Int) (x6 : List (List Int)) (x7 : List (List Int × List Int)) (x8 : Int) (x9 : Int) (x10 : Int) : Option ((Int × (Int × (Int × (Int × (Int × (Int × (List (List Int) × (List (List Int × List Int) × (Int × (Int × (Int × Unit))))))))))) ⊕ (Int × Unit)) :=
  (field_Times F x.1 x.2).bind fun r123 =>
  cond (r123.2.1 != (0 : Int))
    (some (.inr (r123.2.1, ())))
    ((field_Sum F x8 r123.1).bind fun r125 =>
    cond (r125.2.1 != (0 : Int))
      (some (.inr (r125.2.1, ())))
      (some (.inl (x0, (x1, (x2, (x3, (x4, (x5, (x6, (x7, (r125.1, (r125.2.1, (x10, ()))))))))))))))
def layout_Texels (F : Nat) (a0 : (Int × (Int × (Int × (Int × (Int × (Int × (List (List Int) × (List (List Int × List Int) × Unit))))))))) : Option (Int × (Int × Unit)) :=
  let v105 : Int := (min (min (min (min a0.2.1 a0.2.2.1) a0.2.2.2.1) a0.2.2.2.2.1) a0.2.2.2.2.2.1)
  cond (decide (v105 < (1 : Int)))
    (some ((0 : Int), ((1 : Int), ())))
    ((mip_Levels F a0.2.1 a0.2.2.1).bind fun r107 =>
    let v108 : Int := (min a0.2.2.2.2.2.1 r107.1)
    (layout_levels_c1 F v108 a0.2.1 a0.2.2.1).bind fun l127 =>
    (runL (fun x => u11 (layout_Texels_r F x)) l127 (a0.1, (a0.2.1, (a0.2.2.1, (a0.2.2.2.1, (a0.2.2.2.2.1, (a0.2.2.2.2.2.1, (a0.2.2.2.2.2.2.1, (a0.2.2.2.2.2.2.2.1, ((0 : Int), ((0 : Int), (v108, ())))))))))))).bind fun r128 => match r128 with
      | .inl r128 => ((field_Sum F r128.2.2.2.2.2.2.2.2.1 (min (IntKind.wrap .i64 (r128.2.2.2.2.2.1 - r128.2.2.2.2.2.2.2.2.2.2.1)) (2147483647 : Int))).bind fun r131 =>
        cond (r131.2.1 != (0 : Int))
          (some ((0 : Int), (r131.2.1, ())))
          ((field_Times F r131.1 r128.2.2.2.2.1).bind fun r133 =>
          cond (r133.2.1 != (0 : Int))
            (some ((0 : Int), (r133.2.1, ())))
            ((field_Times F r133.1 r128.2.2.2.1).bind fun r135 =>
            some (r135.1, (r135.2.1, ())))))
      | .inr r128 => (some ((0 : Int), (r128.1, ()))))
def layout_in (F : Nat) (a0 : Int) (a1 : Int) : Option (Bool × Unit) :=
  cond (decide ((0 : Int) ≤ a0))
    (some ((decide (a0 < a1)), ()))
    (some (false, ()))
def layout_Index (F : Nat) (a0 : (Int × (Int × (Int × (Int × (Int × (Int × (List (List Int) × (List (List Int × List Int) × Unit))))))))) (a1 : Int) (a2 : Int) (a3 : Int) : Option (Int × Unit) :=
  some ((IntKind.wrap .i64 ((IntKind.wrap .i64 ((IntKind.wrap .i64 ((IntKind.wrap .i64 (a1 * a0.2.2.2.2.1)) + a2)) * a0.2.2.2.2.2.1)) + a3)), ())
def field_room (F : Nat) (a0 : List Int) (a1 : Int) (a2 : Int) : Option (Bool × Unit) :=
  let v169 : Int := (((List.length a0) : Nat) : Int)
  cond (decide (a1 ≤ v169))
    (let v171 : Int := (IntKind.wrap .i64 (v169 - a1))
    some ((decide (a2 ≤ v171)), ()))
    (some (false, ()))
def field_Part (F : Nat) (a0 : List Int) (a1 : Int) (a2 : Int) : Option (List Int × (Int × Unit)) :=
  cond (decide (a1 < (0 : Int)))
    (some ([], ((1 : Int), ())))
    (cond (decide (a2 < (0 : Int)))
      (some ([], ((1 : Int), ())))
      ((field_room F a0 a1 a2).bind fun r185 =>
      cond (!r185.1)
        (some ([], ((2 : Int), ())))
        (let v187 : Int := (IntKind.wrap .i64 (a1 + a2))
        cond ((decide ((0 : Int) ≤ a1)) && ((decide ((0 : Int) ≤ v187)) && ((decide ((0 : Int) ≤ v187)) && ((decide ((Int.toNat a1) ≤ (Int.toNat v187))) && ((decide ((Int.toNat v187) ≤ (List.length a0))) && (decide ((Int.toNat v187) = (Int.toNat v187))))))))
          ((slices_Clone_byte_byte F (List.take (psub (Int.toNat v187) (Int.toNat a1)) (List.drop (Int.toNat a1) a0))).bind fun r192 =>
          some (r192.1, ((0 : Int), ())))
          (none))))
def layout_Block (F : Nat) (a0 : (Int × (Int × (Int × (Int × (Int × (Int × (List (List Int) × (List (List Int × List Int) × Unit))))))))) (a1 : Int) (a2 : Int) (a3 : Int) (a4 : Int) (a5 : Int) : Option (List Int × (Int × Unit)) :=
  (layout_in F a1 a0.2.2.2.1).bind fun r197 =>
  cond (!r197.1)
    (some ([], ((1 : Int), ())))
    ((layout_in F a2 a0.2.2.2.2.1).bind fun r199 =>
    cond (!r199.1)
      (some ([], ((1 : Int), ())))
      ((layout_in F a3 a0.2.2.2.2.2.1).bind fun r201 =>
      cond (!r201.1)
        (some ([], ((1 : Int), ())))
        ((mip_Side F a0.2.1 a3).bind fun r203 =>
        (mip_Side F a0.2.2.1 a3).bind fun r204 =>
        (image_Tiles F r203.1 r204.1).bind fun r205 =>
        (layout_Index F (a0.1, (a0.2.1, (a0.2.2.1, (a0.2.2.2.1, (a0.2.2.2.2.1, (a0.2.2.2.2.2.1, (a0.2.2.2.2.2.2.1, (a0.2.2.2.2.2.2.2.1, ())))))))) a1 a2 a3).bind fun r206 =>
        (layout_in F a4 r205.1).bind fun r207 =>
        cond (!r207.1)
          (some ([], ((1 : Int), ())))
          ((layout_in F a5 r205.2.1).bind fun r209 =>
          cond (!r209.1)
            (some ([], ((1 : Int), ())))
            (let v211 : Int := (((List.length a0.2.2.2.2.2.2.1) : Nat) : Int)
            cond (decide (v211 ≤ r206.1))
              (some ([], ((1 : Int), ())))
              ((format_Of F a0.1).bind fun r213 =>
              cond ((decide ((0 : Int) ≤ r206.1)) && (decide (r206.1 < (((List.length a0.2.2.2.2.2.2.1) : Nat) : Int))))
                ((field_Part F (List.getD a0.2.2.2.2.2.2.1 (Int.toNat r206.1) []) (IntKind.wrap .i64 ((IntKind.wrap .i64 ((IntKind.wrap .i64 (a5 * r205.1)) + a4)) * r213.1.1)) r213.1.1).bind fun r219 =>
                cond (r219.2.1 != (0 : Int))
                  (some ([], ((1 : Int), ())))
                  (some (r219.1, ((0 : Int), ()))))
                (none)))))))
def ref17_Wide (F : Nat) : Option ((Int × (Int × (Int × Unit))) × Unit) :=
  some (((4096 : Int), ((100 : Int), ((1000000 : Int), ()))), ())
def layout_Header (F : Nat) (a0 : (Int × (Int × (Int × (Int × (Int × (Int × (List (List Int) × (List (List Int × List Int) × Unit))))))))) (a1 : (Int × (Int × (Int × Unit)))) : Option (Int × Unit) :=
  (format_Of F a0.1).bind fun r239 =>
  (layout_Texels F (a0.1, (a0.2.1, (a0.2.2.1, (a0.2.2.2.1, (a0.2.2.2.2.1, (a0.2.2.2.2.2.1, (a0.2.2.2.2.2.2.1, (a0.2.2.2.2.2.2.2.1, ()))))))))).bind fun r240 =>
  cond (r239.2.1 != (0 : Int))
    (some (r239.2.1, ()))
    (let v242 : Int := (min (min (min a0.2.1 a0.2.2.1) a0.2.2.2.1) a0.2.2.2.2.2.1)
    cond (decide (v242 < (1 : Int)))
      (some ((1 : Int), ()))
      (cond (a0.2.2.2.2.1 != (1 : Int))
        (cond (a0.2.2.2.2.1 != (6 : Int))
          (some ((1 : Int), ()))
          (cond (a0.2.2.2.2.1 == (6 : Int))
            (cond (a0.2.1 != a0.2.2.1)
              (some ((1 : Int), ()))
              ((mip_Levels F a0.2.1 a0.2.2.1).bind fun r248 =>
              cond (decide (r248.1 < a0.2.2.2.2.2.1))
                (some ((1 : Int), ()))
                (cond (decide (a1.1 < a0.2.1))
                  (some ((6 : Int), ()))
                  (cond (decide (a1.1 < a0.2.2.1))
                    (some ((6 : Int), ()))
                    (cond (decide (a1.2.1 < a0.2.2.2.1))
                      (some ((6 : Int), ()))
                      (cond (r240.2.1 != (0 : Int))
                        (some ((6 : Int), ()))
                        (cond (decide (a1.2.2.1 < r240.1))
                          (some ((6 : Int), ()))
                          (some ((0 : Int), ())))))))))
            ((mip_Levels F a0.2.1 a0.2.2.1).bind fun r255 =>
            cond (decide (r255.1 < a0.2.2.2.2.2.1))
              (some ((1 : Int), ()))
              (cond (decide (a1.1 < a0.2.1))
                (some ((6 : Int), ()))
                (cond (decide (a1.1 < a0.2.2.1))
                  (some ((6 : Int), ()))
                  (cond (decide (a1.2.1 < a0.2.2.2.1))
                    (some ((6 : Int), ()))
                    (cond (r240.2.1 != (0 : Int))
                      (some ((6 : Int), ()))
                      (cond (decide (a1.2.2.1 < r240.1))
                        (some ((6 : Int), ()))
                        (some ((0 : Int), ()))))))))))
        (cond (a0.2.2.2.2.1 == (6 : Int))
          (cond (a0.2.1 != a0.2.2.1)
            (some ((1 : Int), ()))
            ((mip_Levels F a0.2.1 a0.2.2.1).bind fun r264 =>
            cond (decide (r264.1 < a0.2.2.2.2.2.1))
              (some ((1 : Int), ()))
              (cond (decide (a1.1 < a0.2.1))
                (some ((6 : Int), ()))
                (cond (decide (a1.1 < a0.2.2.1))
                  (some ((6 : Int), ()))
                  (cond (decide (a1.2.1 < a0.2.2.2.1))
                    (some ((6 : Int), ()))
                    (cond (r240.2.1 != (0 : Int))
                      (some ((6 : Int), ()))
                      (cond (decide (a1.2.2.1 < r240.1))
                        (some ((6 : Int), ()))
                        (some ((0 : Int), ())))))))))
          ((mip_Levels F a0.2.1 a0.2.2.1).bind fun r271 =>
          cond (decide (r271.1 < a0.2.2.2.2.2.1))
            (some ((1 : Int), ()))
            (cond (decide (a1.1 < a0.2.1))
              (some ((6 : Int), ()))
              (cond (decide (a1.1 < a0.2.2.1))
                (some ((6 : Int), ()))
                (cond (decide (a1.2.1 < a0.2.2.2.1))
                  (some ((6 : Int), ()))
                  (cond (r240.2.1 != (0 : Int))
                    (some ((6 : Int), ()))
                    (cond (decide (a1.2.2.1 < r240.1))
                      (some ((6 : Int), ()))
                      (some ((0 : Int), ())))))))))))
def layout_data_l0S (F : Nat) (rec : Int → Int → Int → Int → Int → Int → List (List Int) → List (List Int × List Int) → List Int → List (List Int) → Int → Int → Option (Unit ⊕ Unit)) (x0 : Int) (x1 : Int) (x2 : Int) (x3 : Int) (x4 : Int) (x5 : Int) (x6 : List (List Int)) (x7 : List (List Int × List Int)) (x8 : List Int) (x9 : List (List Int)) (x10 : Int) (x11 : Int) : Option (Unit ⊕ Unit) :=
  cond (decide (x11 < x10))
    (cond ((decide ((0 : Int) ≤ x11)) && (decide (x11 < (((List.length x9) : Nat) : Int))))
      (cond (!(x5 == (0 : Int)))
        (cond ((decide ((0 : Int) ≤ (Int.tmod x11 x5))) && (decide ((Int.tmod x11 x5) < (((List.length x8) : Nat) : Int))))
          (cond ((((List.length (List.getD x9 (Int.toNat x11) [])) : Nat) : Int) != (List.getD x8 (Int.toNat (Int.tmod x11 x5)) (0 : Int)))
            (some (.inl ()))
            (rec x0 x1 x2 x3 x4 x5 x6 x7 x8 x9 x10 (IntKind.wrap .i64 (x11 + (1 : Int)))))
          (none))
        (none))
      (none))
    (some (.inr ()))
def layout_data_l0 (F : Nat) : Nat → Int → Int → Int → Int → Int → Int → List (List Int) → List (List Int × List Int) → List Int → List (List Int) → Int → Int → Option (Unit ⊕ Unit)
  | 0, _, _, _, _, _, _, _, _, _, _, _, _ => none
  | k + 1, x0, x1, x2, x3, x4, x5, x6, x7, x8, x9, x10, x11 => layout_data_l0S F (layout_data_l0 F k) x0 x1 x2 x3 x4 x5 x6 x7 x8 x9 x10 x11
def layout_data (F : Nat) (a0 : (Int × (Int × (Int × (Int × (Int × (Int × (List (List Int) × (List (List Int × List Int) × Unit))))))))) : Option (Bool × Unit) :=
  (layout_Sizes F a0.1 a0.2.1 a0.2.2.1 a0.2.2.2.2.2.1).bind fun r280 =>
  cond (r280.2.1 != (0 : Int))
    (some (false, ()))
    (let v283 : Int := (((List.length a0.2.2.2.2.2.2.1) : Nat) : Int)
    let b284 : Bool := (!(a0.2.2.2.2.2.1 == (0 : Int)))
    cond b284
      (cond ((Int.tmod v283 a0.2.2.2.2.2.1) != (0 : Int))
        (some (false, ()))
        (cond b284
          (cond ((IntKind.wrap .i64 (Int.tdiv v283 a0.2.2.2.2.2.1)) != (IntKind.wrap .i64 (a0.2.2.2.1 * a0.2.2.2.2.1)))
            (some (false, ()))
            ((layout_data_l0 F F a0.1 a0.2.1 a0.2.2.1 a0.2.2.2.1 a0.2.2.2.2.1 a0.2.2.2.2.2.1 a0.2.2.2.2.2.2.1 a0.2.2.2.2.2.2.2.1 r280.1 a0.2.2.2.2.2.2.1 v283 (0 : Int)).bind fun r325 => match r325 with
              | .inl r325 => (some (false, ()))
              | .inr r325 => (some (true, ()))))
          (none)))
      (none))
def internal_stringslite_IndexByte (F : Nat) (a0 : List Int) (a1 : Int) : Option (Int × Unit) :=
  some ((idxB a1 a0 (0 : Int)), ())
def strings_IndexByte (F : Nat) (a0 : List Int) (a1 : Int) : Option (Int × Unit) :=
  (internal_stringslite_IndexByte F a0 a1).bind fun r334 =>
  some (r334.1, ())
def layout_Check_c1 (F : Nat) (a0 : (List Int × (List Int × Unit))) : Option (Bool × Unit) :=
  cond (a0.1 == (bytesL (ByteArray.mk (List.toArray []))))
    (some (true, ()))
    ((strings_IndexByte F a0.1 (0 : Int)).bind fun r335 =>
    cond (decide ((0 : Int) ≤ r335.1))
      (some (true, ()))
      (let v339 : Int := (IntKind.wrap .i64 ((((List.length a0.1) : Nat) : Int) + (((List.length a0.2.1) : Nat) : Int)))
      some ((decide ((65535 : Int) < v339)), ())))
def slices_IndexFunc_api_Pair_api_Pair_Check_c1_l0S (F : Nat) (rec : List (List Int × List Int) → Int → Int → Option ((Int × Unit) ⊕ Unit)) (x0 : List (List Int × List Int)) (x1 : Int) (x2 : Int) : Option ((Int × Unit) ⊕ Unit) :=
  cond (decide (x2 < x1))
    (cond ((decide ((0 : Int) ≤ x2)) && (decide (x2 < (((List.length x0) : Nat) : Int))))
      (let d365 : (List Int × List Int) := (List.getD x0 (Int.toNat x2) ([], []))
      (layout_Check_c1 F (d365.1, (d365.2, ()))).bind fun r366 =>
      cond r366.1
        (some (.inl (x2, ())))
        (rec x0 x1 (IntKind.wrap .i64 (x2 + (1 : Int)))))
      (none))
    (some (.inr ()))
def slices_IndexFunc_api_Pair_api_Pair_Check_c1_l0 (F : Nat) : Nat → List (List Int × List Int) → Int → Int → Option ((Int × Unit) ⊕ Unit)
  | 0, _, _, _ => none
  | k + 1, x0, x1, x2 => slices_IndexFunc_api_Pair_api_Pair_Check_c1_l0S F (slices_IndexFunc_api_Pair_api_Pair_Check_c1_l0 F k) x0 x1 x2
def slices_IndexFunc_api_Pair_api_Pair_Check_c1 (F : Nat) (a0 : List (List Int × List Int)) : Option (Int × Unit) :=
  (slices_IndexFunc_api_Pair_api_Pair_Check_c1_l0 F F a0 (((List.length a0) : Nat) : Int) (0 : Int)).bind fun r368 => match r368 with
    | .inl r368 => (some (r368.1, ()))
    | .inr r368 => (some ((-(1 : Int)), ()))
def slices_ContainsFunc_api_Pair_api_Pair_Check_c1 (F : Nat) (a0 : List (List Int × List Int)) : Option (Bool × Unit) :=
  (slices_IndexFunc_api_Pair_api_Pair_Check_c1 F a0).bind fun r371 =>
  some ((decide ((0 : Int) ≤ r371.1)), ())
def layout_Check (F : Nat) (a0 : (Int × (Int × (Int × (Int × (Int × (Int × (List (List Int) × (List (List Int × List Int) × Unit))))))))) (a1 : (Int × (Int × (Int × Unit)))) : Option (Int × Unit) :=
  (layout_Header F (a0.1, (a0.2.1, (a0.2.2.1, (a0.2.2.2.1, (a0.2.2.2.2.1, (a0.2.2.2.2.2.1, (a0.2.2.2.2.2.2.1, (a0.2.2.2.2.2.2.2.1, ())))))))) (a1.1, (a1.2.1, (a1.2.2.1, ())))).bind fun r278 =>
  cond (r278.1 != (0 : Int))
    (some (r278.1, ()))
    ((layout_data F (a0.1, (a0.2.1, (a0.2.2.1, (a0.2.2.2.1, (a0.2.2.2.2.1, (a0.2.2.2.2.2.1, (a0.2.2.2.2.2.2.1, (a0.2.2.2.2.2.2.2.1, ()))))))))).bind fun r326 =>
    cond (!r326.1)
      (some ((1 : Int), ()))
      ((slices_ContainsFunc_api_Pair_api_Pair_Check_c1 F a0.2.2.2.2.2.2.2.1).bind fun r373 =>
      cond r373.1
        (some ((8 : Int), ()))
        (some ((0 : Int), ()))))
def layout_Same_c1 (F : Nat) (a0 : (Int × (Int × (Int × (Int × (Int × (Int × (List (List Int) × (List (List Int × List Int) × Unit))))))))) : Option (List Int × Unit) :=
  some ([a0.1, a0.2.1, a0.2.2.1, a0.2.2.2.1, a0.2.2.2.2.1, a0.2.2.2.2.2.1], ())
def bytes_Equal (F : Nat) (a0 : List Int) (a1 : List Int) : Option (Bool × Unit) :=
  some ((a0 == a1), ())
def slices_EqualFunc_byte_byte_byte_byte_Equal_l0S (F : Nat) (rec : List (List Int) → List (List Int) → Int → Int → Option (Unit ⊕ Unit)) (x0 : List (List Int)) (x1 : List (List Int)) (x2 : Int) (x3 : Int) : Option (Unit ⊕ Unit) :=
  cond (decide (x3 < x2))
    (cond ((decide ((0 : Int) ≤ x3)) && (decide (x3 < (((List.length x1) : Nat) : Int))))
      (cond ((decide ((0 : Int) ≤ x3)) && (decide (x3 < (((List.length x0) : Nat) : Int))))
        ((bytes_Equal F (List.getD x1 (Int.toNat x3) []) (List.getD x0 (Int.toNat x3) [])).bind fun r438 =>
        cond (!r438.1)
          (some (.inl ()))
          (rec x0 x1 x2 (IntKind.wrap .i64 (x3 + (1 : Int)))))
        (none))
      (none))
    (some (.inr ()))
def slices_EqualFunc_byte_byte_byte_byte_Equal_l0 (F : Nat) : Nat → List (List Int) → List (List Int) → Int → Int → Option (Unit ⊕ Unit)
  | 0, _, _, _, _ => none
  | k + 1, x0, x1, x2, x3 => slices_EqualFunc_byte_byte_byte_byte_Equal_l0S F (slices_EqualFunc_byte_byte_byte_byte_Equal_l0 F k) x0 x1 x2 x3
def slices_EqualFunc_byte_byte_byte_byte_Equal (F : Nat) (a0 : List (List Int)) (a1 : List (List Int)) : Option (Bool × Unit) :=
  let v415 : Int := (((List.length a0) : Nat) : Int)
  cond (v415 != (((List.length a1) : Nat) : Int))
    (some (false, ()))
    ((slices_EqualFunc_byte_byte_byte_byte_Equal_l0 F F a1 a0 v415 (0 : Int)).bind fun r441 => match r441 with
      | .inl r441 => (some (false, ()))
      | .inr r441 => (some (true, ())))
def slices_Equal_api_Pair_api_Pair_l0S (F : Nat) (rec : List (List Int × List Int) → List (List Int × List Int) → Int → Int → Option (Unit ⊕ Unit)) (x0 : List (List Int × List Int)) (x1 : List (List Int × List Int)) (x2 : Int) (x3 : Int) : Option (Unit ⊕ Unit) :=
  cond (decide (x3 < x2))
    (cond ((decide ((0 : Int) ≤ x3)) && (decide (x3 < (((List.length x0) : Nat) : Int))))
      (let d461 : (List Int × List Int) := (List.getD x0 (Int.toNat x3) ([], []))
      cond ((decide ((0 : Int) ≤ x3)) && (decide (x3 < (((List.length x1) : Nat) : Int))))
        (let d463 : (List Int × List Int) := (List.getD x1 (Int.toNat x3) ([], []))
        cond (!((d461.1 == d463.1) && (d461.2 == d463.2)))
          (some (.inl ()))
          (rec x0 x1 x2 (IntKind.wrap .i64 (x3 + (1 : Int)))))
        (none))
      (none))
    (some (.inr ()))
def slices_Equal_api_Pair_api_Pair_l0 (F : Nat) : Nat → List (List Int × List Int) → List (List Int × List Int) → Int → Int → Option (Unit ⊕ Unit)
  | 0, _, _, _, _ => none
  | k + 1, x0, x1, x2, x3 => slices_Equal_api_Pair_api_Pair_l0S F (slices_Equal_api_Pair_api_Pair_l0 F k) x0 x1 x2 x3
def slices_Equal_api_Pair_api_Pair (F : Nat) (a0 : List (List Int × List Int)) (a1 : List (List Int × List Int)) : Option (Bool × Unit) :=
  let v443 : Int := (((List.length a0) : Nat) : Int)
  cond (v443 != (((List.length a1) : Nat) : Int))
    (some (false, ()))
    ((slices_Equal_api_Pair_api_Pair_l0 F F a0 a1 v443 (0 : Int)).bind fun r466 => match r466 with
      | .inl r466 => (some (false, ()))
      | .inr r466 => (some (true, ())))
def layout_Same (F : Nat) (a0 : (Int × (Int × (Int × (Int × (Int × (Int × (List (List Int) × (List (List Int × List Int) × Unit))))))))) (a1 : (Int × (Int × (Int × (Int × (Int × (Int × (List (List Int) × (List (List Int × List Int) × Unit))))))))) : Option (Bool × Unit) :=
  (layout_Same_c1 F (a0.1, (a0.2.1, (a0.2.2.1, (a0.2.2.2.1, (a0.2.2.2.2.1, (a0.2.2.2.2.2.1, (a0.2.2.2.2.2.2.1, (a0.2.2.2.2.2.2.2.1, ()))))))))).bind fun r382 =>
  (layout_Same_c1 F (a1.1, (a1.2.1, (a1.2.2.1, (a1.2.2.2.1, (a1.2.2.2.2.1, (a1.2.2.2.2.2.1, (a1.2.2.2.2.2.2.1, (a1.2.2.2.2.2.2.2.1, ()))))))))).bind fun r383 =>
  cond (r382.1 == r383.1)
    ((slices_EqualFunc_byte_byte_byte_byte_Equal F a0.2.2.2.2.2.2.1 a1.2.2.2.2.2.2.1).bind fun r442 =>
    cond r442.1
      ((slices_Equal_api_Pair_api_Pair F a0.2.2.2.2.2.2.2.1 a1.2.2.2.2.2.2.2.1).bind fun r467 =>
      some (r467.1, ()))
      (some (false, ())))
    (some (false, ()))
def law17_awake (F : Nat) : Option (Bool × Unit) :=
  (layout_Sizes F (1 : Int) (8 : Int) (4 : Int) (4 : Int)).bind fun r103 =>
  let n104 : Nat := (List.length r103.1)
  (layout_Texels F ((1 : Int), ((5 : Int), ((4 : Int), ((1 : Int), ((1 : Int), ((2 : Int), ([law17_awakeT0, law17_awakeT1], ([], ()))))))))).bind fun r136 =>
  (layout_Block F ((1 : Int), ((5 : Int), ((4 : Int), ((1 : Int), ((1 : Int), ((2 : Int), ([law17_awakeT0, law17_awakeT1], ([], ())))))))) (0 : Int) (0 : Int) (0 : Int) (1 : Int) (0 : Int)).bind fun r222 =>
  cond (((n104 : Nat) : Int) == (4 : Int))
    (cond (decide ((0 : Int) < ((n104 : Nat) : Int)))
      (cond ((List.getD r103.1 0 (0 : Int)) == (16 : Int))
        (cond (decide ((3 : Int) < ((n104 : Nat) : Int)))
          (cond ((List.getD r103.1 3 (0 : Int)) == (8 : Int))
            (cond (r103.2.1 == (0 : Int))
              (cond (r136.1 == (24 : Int))
                (cond (r136.2.1 == (0 : Int))
                  (cond ((((List.length r222.1) : Nat) : Int) == (8 : Int))
                    (cond (r222.2.1 == (0 : Int))
                      ((ref17_Wide F).bind fun r238 =>
                      (layout_Check F ((1 : Int), ((5 : Int), ((4 : Int), ((1 : Int), ((1 : Int), ((2 : Int), ([law17_awakeT0, law17_awakeT1], ([], ())))))))) (r238.1.1, (r238.1.2.1, (r238.1.2.2.1, ())))).bind fun r374 =>
                      cond (r374.1 == (0 : Int))
                        ((ref17_Wide F).bind fun r376 =>
                        (layout_Check F ((1 : Int), ((5 : Int), ((4 : Int), ((1 : Int), ((1 : Int), ((3 : Int), ([law17_awakeT0, law17_awakeT1], ([], ())))))))) (r376.1.1, (r376.1.2.1, (r376.1.2.2.1, ())))).bind fun r377 =>
                        cond (r377.1 == (1 : Int))
                          ((layout_Index F ((1 : Int), ((5 : Int), ((4 : Int), ((1 : Int), ((1 : Int), ((2 : Int), ([law17_awakeT0, law17_awakeT1], ([], ())))))))) (0 : Int) (0 : Int) (1 : Int)).bind fun r379 =>
                          cond (r379.1 == (1 : Int))
                            ((layout_Same F ((1 : Int), ((5 : Int), ((4 : Int), ((1 : Int), ((1 : Int), ((2 : Int), ([law17_awakeT0, law17_awakeT1], ([], ())))))))) ((1 : Int), ((5 : Int), ((4 : Int), ((1 : Int), ((1 : Int), ((2 : Int), ([law17_awakeT0, law17_awakeT1], ([], ()))))))))).bind fun r468 =>
                            cond r468.1
                              ((layout_Same F ((1 : Int), ((5 : Int), ((4 : Int), ((1 : Int), ((1 : Int), ((2 : Int), ([law17_awakeT0, law17_awakeT1], ([], ())))))))) ((1 : Int), ((5 : Int), ((4 : Int), ((1 : Int), ((1 : Int), ((3 : Int), ([law17_awakeT0, law17_awakeT1], ([], ()))))))))).bind fun r469 =>
                              cond (!r469.1)
                                ((layout_Header F ((1 : Int), ((5 : Int), ((4 : Int), ((1 : Int), ((1 : Int), ((2 : Int), ([law17_awakeT0, law17_awakeT1], ([], ())))))))) ((4 : Int), ((1 : Int), ((99 : Int), ())))).bind fun r471 =>
                                some ((r471.1 == (6 : Int)), ()))
                                (some (false, ())))
                              (some (false, ())))
                            (some (false, ())))
                          (some (false, ())))
                        (some (false, ())))
                      (some (false, ())))
                    (some (false, ())))
                  (some (false, ())))
                (some (false, ())))
              (some (false, ())))
            (some (false, ())))
          (none))
        (some (false, ())))
      (none))
    (some (false, ()))
def ref17_Light_l0S (F : Nat) (rec : Int → Int → Int → Int → Int → Int → List (List Int) → List (List Int × List Int) → Int → Int → Option (Int × (Int × (Int × (Int × (Int × (Int × (List (List Int) × (List (List Int × List Int) × (Int × Unit)))))))))) (x0 : Int) (x1 : Int) (x2 : Int) (x3 : Int) (x4 : Int) (x5 : Int) (x6 : List (List Int)) (x7 : List (List Int × List Int)) (x8 : Int) (x9 : Int) : Option (Int × (Int × (Int × (Int × (Int × (Int × (List (List Int) × (List (List Int × List Int) × (Int × Unit))))))))) :=
  let v489 : Int := (((List.length x6) : Nat) : Int)
  cond (decide (x9 < v489))
    (cond (decide (x9 < (400 : Int)))
      (cond ((decide ((0 : Int) ≤ x9)) && (decide (x9 < (((List.length x6) : Nat) : Int))))
        (rec x0 x1 x2 x3 x4 x5 x6 x7 (IntKind.wrap .i64 ((IntKind.wrap .i64 (x8 + (20 : Int))) + (((List.length (List.getD x6 (Int.toNat x9) [])) : Nat) : Int))) (IntKind.wrap .i64 (x9 + (1 : Int))))
        (none))
      (some (x0, (x1, (x2, (x3, (x4, (x5, (x6, (x7, (x8, ())))))))))))
    (some (x0, (x1, (x2, (x3, (x4, (x5, (x6, (x7, (x8, ()))))))))))
def ref17_Light_l0 (F : Nat) : Nat → Int → Int → Int → Int → Int → Int → List (List Int) → List (List Int × List Int) → Int → Int → Option (Int × (Int × (Int × (Int × (Int × (Int × (List (List Int) × (List (List Int × List Int) × (Int × Unit)))))))))
  | 0, _, _, _, _, _, _, _, _, _, _ => none
  | k + 1, x0, x1, x2, x3, x4, x5, x6, x7, x8, x9 => ref17_Light_l0S F (ref17_Light_l0 F k) x0 x1 x2 x3 x4 x5 x6 x7 x8 x9
def ref17_Light_l2S (F : Nat) (rec : Int → Int → Int → Int → Int → Int → List (List Int) → List (List Int × List Int) → Int → Int → Option (Int × (Int × (Int × (Int × (Int × (Int × (List (List Int) × (List (List Int × List Int) × (Int × Unit)))))))))) (x0 : Int) (x1 : Int) (x2 : Int) (x3 : Int) (x4 : Int) (x5 : Int) (x6 : List (List Int)) (x7 : List (List Int × List Int)) (x8 : Int) (x9 : Int) : Option (Int × (Int × (Int × (Int × (Int × (Int × (List (List Int) × (List (List Int × List Int) × (Int × Unit))))))))) :=
  let v519 : Int := (((List.length x7) : Nat) : Int)
  cond (decide (x9 < v519))
    (cond (decide (x9 < (400 : Int)))
      (let b523 : Bool := ((decide ((0 : Int) ≤ x9)) && (decide (x9 < (((List.length x7) : Nat) : Int))))
      cond b523
        (let d524 : (List Int × List Int) := (List.getD x7 (Int.toNat x9) ([], []))
        cond b523
          (rec x0 x1 x2 x3 x4 x5 x6 x7 (IntKind.wrap .i64 ((IntKind.wrap .i64 ((IntKind.wrap .i64 (x8 + (20 : Int))) + (((List.length d524.1) : Nat) : Int))) + (((List.length d524.2) : Nat) : Int))) (IntKind.wrap .i64 (x9 + (1 : Int))))
          (none))
        (none))
      (some (x0, (x1, (x2, (x3, (x4, (x5, (x6, (x7, (x8, ())))))))))))
    (some (x0, (x1, (x2, (x3, (x4, (x5, (x6, (x7, (x8, ()))))))))))
def ref17_Light_l2 (F : Nat) : Nat → Int → Int → Int → Int → Int → Int → List (List Int) → List (List Int × List Int) → Int → Int → Option (Int × (Int × (Int × (Int × (Int × (Int × (List (List Int) × (List (List Int × List Int) × (Int × Unit)))))))))
  | 0, _, _, _, _, _, _, _, _, _, _ => none
  | k + 1, x0, x1, x2, x3, x4, x5, x6, x7, x8, x9 => ref17_Light_l2S F (ref17_Light_l2 F k) x0 x1 x2 x3 x4 x5 x6 x7 x8 x9
def ref17_Light (F : Nat) (a0 : (Int × (Int × (Int × (Int × (Int × (Int × (List (List Int) × (List (List Int × List Int) × Unit))))))))) : Option (Bool × Unit) :=
  (ref17_Light_l0 F F a0.1 a0.2.1 a0.2.2.1 a0.2.2.2.1 a0.2.2.2.2.1 a0.2.2.2.2.2.1 a0.2.2.2.2.2.2.1 a0.2.2.2.2.2.2.2.1 (0 : Int) (0 : Int)).bind fun r498 =>
  (ref17_Light_l2 F F r498.1 r498.2.1 r498.2.2.1 r498.2.2.2.1 r498.2.2.2.2.1 r498.2.2.2.2.2.1 r498.2.2.2.2.2.2.1 r498.2.2.2.2.2.2.2.1 r498.2.2.2.2.2.2.2.2.1 (0 : Int)).bind fun r530 =>
  let v531 : Int := (((List.length r530.2.2.2.2.2.2.1) : Nat) : Int)
  cond (decide (v531 ≤ (300 : Int)))
    (let v533 : Int := (((List.length r530.2.2.2.2.2.2.2.1) : Nat) : Int)
    cond (decide (v533 ≤ (100 : Int)))
      (some ((decide (r530.2.2.2.2.2.2.2.2.1 < (100000 : Int))), ()))
      (some (false, ())))
    (some (false, ()))
def law17_fair (F : Nat) (a0 : (Int × (Int × (Int × (Int × (Int × (Int × (List (List Int) × (List (List Int × List Int) × Unit))))))))) : Option (Bool × Unit) :=
  cond (decide (a0.2.1 ≤ (1073741824 : Int)))
    (cond (decide (a0.2.2.1 ≤ (1073741824 : Int)))
      (cond (decide (a0.2.2.2.2.2.1 ≤ (1073741824 : Int)))
        (cond (decide (a0.2.2.2.1 ≤ (1073741824 : Int)))
          (some ((decide (a0.2.2.2.2.1 ≤ (1073741824 : Int))), ()))
          (some (false, ())))
        (some (false, ())))
      (some (false, ())))
    (some (false, ()))
def ref05_Side_l0S (F : Nat) (rec : Int → Int → Int → Option (Int × Unit)) (x0 : Int) (x1 : Int) (x2 : Int) : Option (Int × Unit) :=
  cond (decide (x2 < x1))
    (cond (decide ((1 : Int) < x0))
      (rec (IntKind.wrap .i64 (Int.tdiv x0 (2 : Int))) x1 (IntKind.wrap .i64 (x2 + (1 : Int))))
      (some (x0, ())))
    (some (x0, ()))
def ref05_Side_l0 (F : Nat) : Nat → Int → Int → Int → Option (Int × Unit)
  | 0, _, _, _ => none
  | k + 1, x0, x1, x2 => ref05_Side_l0S F (ref05_Side_l0 F k) x0 x1 x2
def ref05_Side (F : Nat) (a0 : Int) (a1 : Int) : Option (Int × Unit) :=
  cond (decide (a0 < (1 : Int)))
    (some ((0 : Int), ()))
    (cond (decide (a1 < (0 : Int)))
      (some ((0 : Int), ()))
      ((ref05_Side_l0 F F a0 a1 (0 : Int)).bind fun r567 =>
      some (r567.1, ())))
def ref01_Sum (F : Nat) (a0 : Int) (a1 : Int) : Option (Int × (Int × Unit)) :=
  cond (decide (a0 < (0 : Int)))
    (some ((0 : Int), ((1 : Int), ())))
    (cond (decide (a1 < (0 : Int)))
      (some ((0 : Int), ((1 : Int), ())))
      (cond (decide ((2147483647 : Int) < a0))
        (some ((0 : Int), ((10 : Int), ())))
        (let v583 : Int := (IntKind.wrap .i64 ((2147483647 : Int) - a0))
        cond (decide (v583 < a1))
          (some ((0 : Int), ((10 : Int), ())))
          (some ((IntKind.wrap .i64 (a0 + a1)), ((0 : Int), ()))))))
def ref17_Texels_l0S (F : Nat) (rec : Int → Int → Int → Int → Int → Int → List (List Int) → List (List Int × List Int) → Int → Int → Option ((Int × Unit) ⊕ (Int × (Int × (Int × (Int × (Int × (Int × (List (List Int) × (List (List Int × List Int) × (Int × Unit))))))))))) (x0 : Int) (x1 : Int) (x2 : Int) (x3 : Int) (x4 : Int) (x5 : Int) (x6 : List (List Int)) (x7 : List (List Int × List Int)) (x8 : Int) (x9 : Int) : Option ((Int × Unit) ⊕ (Int × (Int × (Int × (Int × (Int × (Int × (List (List Int) × (List (List Int × List Int) × (Int × Unit)))))))))) :=
  cond (decide (x9 < x5))
    (cond (decide (x9 < (80 : Int)))
      ((ref05_Side F x1 x9).bind fun r599 =>
      (ref05_Side F x2 x9).bind fun r600 =>
      (ref01_Times F r599.1 r600.1).bind fun r601 =>
      cond (r601.2.1 != (0 : Int))
        (some (.inl (r601.2.1, ())))
        ((ref01_Sum F x8 r601.1).bind fun r603 =>
        cond (r603.2.1 != (0 : Int))
          (some (.inl (r603.2.1, ())))
          (rec x0 x1 x2 x3 x4 x5 x6 x7 r603.1 (IntKind.wrap .i64 (x9 + (1 : Int))))))
      (some (.inr (x0, (x1, (x2, (x3, (x4, (x5, (x6, (x7, (x8, ()))))))))))))
    (some (.inr (x0, (x1, (x2, (x3, (x4, (x5, (x6, (x7, (x8, ())))))))))))
def ref17_Texels_l0 (F : Nat) : Nat → Int → Int → Int → Int → Int → Int → List (List Int) → List (List Int × List Int) → Int → Int → Option ((Int × Unit) ⊕ (Int × (Int × (Int × (Int × (Int × (Int × (List (List Int) × (List (List Int × List Int) × (Int × Unit))))))))))
  | 0, _, _, _, _, _, _, _, _, _, _ => none
  | k + 1, x0, x1, x2, x3, x4, x5, x6, x7, x8, x9 => ref17_Texels_l0S F (ref17_Texels_l0 F k) x0 x1 x2 x3 x4 x5 x6 x7 x8 x9
def ref17_Texels (F : Nat) (a0 : (Int × (Int × (Int × (Int × (Int × (Int × (List (List Int) × (List (List Int × List Int) × Unit))))))))) : Option (Int × (Int × Unit)) :=
  cond (decide (a0.2.1 < (1 : Int)))
    (some ((0 : Int), ((1 : Int), ())))
    (cond (decide (a0.2.2.1 < (1 : Int)))
      (some ((0 : Int), ((1 : Int), ())))
      (cond (decide (a0.2.2.2.1 < (1 : Int)))
        (some ((0 : Int), ((1 : Int), ())))
        (cond (decide (a0.2.2.2.2.1 < (1 : Int)))
          (some ((0 : Int), ((1 : Int), ())))
          (cond (decide (a0.2.2.2.2.2.1 < (1 : Int)))
            (some ((0 : Int), ((1 : Int), ())))
            ((ref17_Texels_l0 F F a0.1 a0.2.1 a0.2.2.1 a0.2.2.2.1 a0.2.2.2.2.1 a0.2.2.2.2.2.1 a0.2.2.2.2.2.2.1 a0.2.2.2.2.2.2.2.1 (0 : Int) (0 : Int)).bind fun r606 => match r606 with
              | .inl r606 => (some ((0 : Int), (r606.1, ())))
              | .inr r606 => (cond (decide ((80 : Int) < r606.2.2.2.2.2.1))
                  ((ref01_Sum F r606.2.2.2.2.2.2.2.2.1 (min (IntKind.wrap .i64 (r606.2.2.2.2.2.1 - (80 : Int))) (2147483647 : Int))).bind fun r610 =>
                  cond (r610.2.1 != (0 : Int))
                    (some ((0 : Int), (r610.2.1, ())))
                    ((ref01_Times F r610.1 r606.2.2.2.2.1).bind fun r612 =>
                    cond (r612.2.1 != (0 : Int))
                      (some ((0 : Int), (r612.2.1, ())))
                      ((ref01_Times F r612.1 r606.2.2.2.1).bind fun r614 =>
                      some (r614.1, (r614.2.1, ())))))
                  ((ref01_Times F r606.2.2.2.2.2.2.2.2.1 r606.2.2.2.2.1).bind fun r615 =>
                  cond (r615.2.1 != (0 : Int))
                    (some ((0 : Int), (r615.2.1, ())))
                    ((ref01_Times F r615.1 r606.2.2.2.1).bind fun r617 =>
                    some (r617.1, (r617.2.1, ()))))))))))
def ref05_Levels_l0S (F : Nat) (rec : Int → Int → Int → Option (Int × Unit)) (x0 : Int) (x1 : Int) (x2 : Int) : Option (Int × Unit) :=
  cond (decide ((1 : Int) < x0))
    (rec (max (IntKind.wrap .i64 (Int.tdiv x0 (2 : Int))) (1 : Int)) (max (IntKind.wrap .i64 (Int.tdiv x1 (2 : Int))) (1 : Int)) (IntKind.wrap .i64 (x2 + (1 : Int))))
    (cond (decide ((1 : Int) < x1))
      (rec (max (IntKind.wrap .i64 (Int.tdiv x0 (2 : Int))) (1 : Int)) (max (IntKind.wrap .i64 (Int.tdiv x1 (2 : Int))) (1 : Int)) (IntKind.wrap .i64 (x2 + (1 : Int))))
      (some (x2, ())))
def ref05_Levels_l0 (F : Nat) : Nat → Int → Int → Int → Option (Int × Unit)
  | 0, _, _, _ => none
  | k + 1, x0, x1, x2 => ref05_Levels_l0S F (ref05_Levels_l0 F k) x0 x1 x2
def ref05_Levels (F : Nat) (a0 : Int) (a1 : Int) : Option (Int × Unit) :=
  cond (decide (a0 < (1 : Int)))
    (some ((0 : Int), ()))
    (cond (decide (a1 < (1 : Int)))
      (some ((0 : Int), ()))
      ((ref05_Levels_l0 F F a0 a1 (1 : Int)).bind fun r784 =>
      some (r784.1, ())))
def ref17_Header (F : Nat) (a0 : (Int × (Int × (Int × (Int × (Int × (Int × (List (List Int) × (List (List Int × List Int) × Unit))))))))) (a1 : (Int × (Int × (Int × Unit)))) : Option (Int × Unit) :=
  (ref13_Of F a0.1).bind fun r738 =>
  cond (r738.2.1 != (0 : Int))
    (some (r738.2.1, ()))
    (cond (decide (a0.2.1 < (1 : Int)))
      (some ((1 : Int), ()))
      (cond (decide (a0.2.2.1 < (1 : Int)))
        (some ((1 : Int), ()))
        (cond (decide (a0.2.2.2.1 < (1 : Int)))
          (some ((1 : Int), ()))
          (cond (decide (a0.2.2.2.2.2.1 < (1 : Int)))
            (some ((1 : Int), ()))
            (cond (a0.2.2.2.2.1 != (1 : Int))
              (cond (a0.2.2.2.2.1 != (6 : Int))
                (some ((1 : Int), ()))
                (cond (a0.2.2.2.2.1 == (6 : Int))
                  (cond (a0.2.1 != a0.2.2.1)
                    (some ((1 : Int), ()))
                    ((ref05_Levels F a0.2.1 a0.2.2.1).bind fun r785 =>
                    cond (decide (r785.1 < a0.2.2.2.2.2.1))
                      (some ((1 : Int), ()))
                      (cond (decide (a1.1 < a0.2.1))
                        (some ((6 : Int), ()))
                        (cond (decide (a1.1 < a0.2.2.1))
                          (some ((6 : Int), ()))
                          (cond (decide (a1.2.1 < a0.2.2.2.1))
                            (some ((6 : Int), ()))
                            ((ref17_Texels F (a0.1, (a0.2.1, (a0.2.2.1, (a0.2.2.2.1, (a0.2.2.2.2.1, (a0.2.2.2.2.2.1, (a0.2.2.2.2.2.2.1, (a0.2.2.2.2.2.2.2.1, ()))))))))).bind fun r790 =>
                            cond (r790.2.1 != (0 : Int))
                              (some ((6 : Int), ()))
                              (cond (decide (a1.2.2.1 < r790.1))
                                (some ((6 : Int), ()))
                                (some ((0 : Int), ())))))))))
                  ((ref05_Levels F a0.2.1 a0.2.2.1).bind fun r793 =>
                  cond (decide (r793.1 < a0.2.2.2.2.2.1))
                    (some ((1 : Int), ()))
                    (cond (decide (a1.1 < a0.2.1))
                      (some ((6 : Int), ()))
                      (cond (decide (a1.1 < a0.2.2.1))
                        (some ((6 : Int), ()))
                        (cond (decide (a1.2.1 < a0.2.2.2.1))
                          (some ((6 : Int), ()))
                          ((ref17_Texels F (a0.1, (a0.2.1, (a0.2.2.1, (a0.2.2.2.1, (a0.2.2.2.2.1, (a0.2.2.2.2.2.1, (a0.2.2.2.2.2.2.1, (a0.2.2.2.2.2.2.2.1, ()))))))))).bind fun r798 =>
                          cond (r798.2.1 != (0 : Int))
                            (some ((6 : Int), ()))
                            (cond (decide (a1.2.2.1 < r798.1))
                              (some ((6 : Int), ()))
                              (some ((0 : Int), ()))))))))))
              (cond (a0.2.2.2.2.1 == (6 : Int))
                (cond (a0.2.1 != a0.2.2.1)
                  (some ((1 : Int), ()))
                  ((ref05_Levels F a0.2.1 a0.2.2.1).bind fun r803 =>
                  cond (decide (r803.1 < a0.2.2.2.2.2.1))
                    (some ((1 : Int), ()))
                    (cond (decide (a1.1 < a0.2.1))
                      (some ((6 : Int), ()))
                      (cond (decide (a1.1 < a0.2.2.1))
                        (some ((6 : Int), ()))
                        (cond (decide (a1.2.1 < a0.2.2.2.1))
                          (some ((6 : Int), ()))
                          ((ref17_Texels F (a0.1, (a0.2.1, (a0.2.2.1, (a0.2.2.2.1, (a0.2.2.2.2.1, (a0.2.2.2.2.2.1, (a0.2.2.2.2.2.2.1, (a0.2.2.2.2.2.2.2.1, ()))))))))).bind fun r808 =>
                          cond (r808.2.1 != (0 : Int))
                            (some ((6 : Int), ()))
                            (cond (decide (a1.2.2.1 < r808.1))
                              (some ((6 : Int), ()))
                              (some ((0 : Int), ())))))))))
                ((ref05_Levels F a0.2.1 a0.2.2.1).bind fun r811 =>
                cond (decide (r811.1 < a0.2.2.2.2.2.1))
                  (some ((1 : Int), ()))
                  (cond (decide (a1.1 < a0.2.1))
                    (some ((6 : Int), ()))
                    (cond (decide (a1.1 < a0.2.2.1))
                      (some ((6 : Int), ()))
                      (cond (decide (a1.2.1 < a0.2.2.2.1))
                        (some ((6 : Int), ()))
                        ((ref17_Texels F (a0.1, (a0.2.1, (a0.2.2.1, (a0.2.2.2.1, (a0.2.2.2.2.1, (a0.2.2.2.2.2.1, (a0.2.2.2.2.2.2.1, (a0.2.2.2.2.2.2.2.1, ()))))))))).bind fun r816 =>
                        cond (r816.2.1 != (0 : Int))
                          (some ((6 : Int), ()))
                          (cond (decide (a1.2.2.1 < r816.1))
                            (some ((6 : Int), ()))
                            (some ((0 : Int), ()))))))))))))))
def ref17_Sizes_l0S (F : Nat) (rec : Int → Int → Int → Int → List Int → Int → Option ((Int × Unit) ⊕ (List Int × Unit))) (x0 : Int) (x1 : Int) (x2 : Int) (x3 : Int) (x4 : List Int) (x5 : Int) : Option ((Int × Unit) ⊕ (List Int × Unit)) :=
  cond (decide (x5 < x3))
    ((ref05_Side F x1 x5).bind fun r898 =>
    (ref05_Side F x2 x5).bind fun r899 =>
    (ref13_Bytes F x0 r898.1 r899.1).bind fun r900 =>
    cond (r900.2.1 != (0 : Int))
      (some (.inl (r900.2.1, ())))
      (cond ((decide (((List.length x4) + 1) ≤ 1099511627776)) && true)
        (rec x0 x1 x2 x3 (x4 ++ [r900.1]) (IntKind.wrap .i64 (x5 + (1 : Int))))
        (none)))
    (some (.inr (x4, ())))
def ref17_Sizes_l0 (F : Nat) : Nat → Int → Int → Int → Int → List Int → Int → Option ((Int × Unit) ⊕ (List Int × Unit))
  | 0, _, _, _, _, _, _ => none
  | k + 1, x0, x1, x2, x3, x4, x5 => ref17_Sizes_l0S F (ref17_Sizes_l0 F k) x0 x1 x2 x3 x4 x5
def ref17_Sizes (F : Nat) (a0 : Int) (a1 : Int) (a2 : Int) (a3 : Int) : Option (List Int × (Int × Unit)) :=
  (ref13_Of F a0).bind fun r874 =>
  cond (r874.2.1 != (0 : Int))
    (some ([], (r874.2.1, ())))
    (cond (decide (a1 < (1 : Int)))
      (some ([], ((1 : Int), ())))
      (cond (decide (a2 < (1 : Int)))
        (some ([], ((1 : Int), ())))
        (cond (decide (a3 < (1 : Int)))
          (some ([], ((1 : Int), ())))
          ((ref05_Levels F a1 a2).bind fun r879 =>
          cond (decide (r879.1 < a3))
            (some ([], ((1 : Int), ())))
            ((ref17_Sizes_l0 F F a0 a1 a2 a3 [] (0 : Int)).bind fun r906 => match r906 with
              | .inl r906 => (some ([], (r906.1, ())))
              | .inr r906 => (some (r906.1, ((0 : Int), ()))))))))
def ref17_Check_l4S (F : Nat) (rec : Int → Int → Int → Int → Int → Int → List (List Int) → List (List Int × List Int) → List Int → Int → Int → Int → Int → Option (Unit ⊕ (Int × (Int × (Int × (Int × (Int × (Int × (List (List Int) × (List (List Int × List Int) × (List Int × (Int × (Int × (Int × Unit)))))))))))))) (x0 : Int) (x1 : Int) (x2 : Int) (x3 : Int) (x4 : Int) (x5 : Int) (x6 : List (List Int)) (x7 : List (List Int × List Int)) (x8 : List Int) (x9 : Int) (x10 : Int) (x11 : Int) (x12 : Int) : Option (Unit ⊕ (Int × (Int × (Int × (Int × (Int × (Int × (List (List Int) × (List (List Int × List Int) × (List Int × (Int × (Int × (Int × Unit))))))))))))) :=
  cond (decide (x12 < x5))
    (let v1134 : Int := (((List.length x6) : Nat) : Int)
    cond (decide (v1134 ≤ x9))
      (some (.inl ()))
      (cond ((decide ((0 : Int) ≤ x9)) && (decide (x9 < (((List.length x6) : Nat) : Int))))
        (cond ((decide ((0 : Int) ≤ x12)) && (decide (x12 < (((List.length x8) : Nat) : Int))))
          (cond ((((List.length (List.getD x6 (Int.toNat x9) [])) : Nat) : Int) != (List.getD x8 (Int.toNat x12) (0 : Int)))
            (some (.inl ()))
            (rec x0 x1 x2 x3 x4 x5 x6 x7 x8 (IntKind.wrap .i64 (x9 + (1 : Int))) x10 x11 (IntKind.wrap .i64 (x12 + (1 : Int)))))
          (none))
        (none)))
    (some (.inr (x0, (x1, (x2, (x3, (x4, (x5, (x6, (x7, (x8, (x9, (x10, (x11, ()))))))))))))))
def ref17_Check_l4 (F : Nat) : Nat → Int → Int → Int → Int → Int → Int → List (List Int) → List (List Int × List Int) → List Int → Int → Int → Int → Int → Option (Unit ⊕ (Int × (Int × (Int × (Int × (Int × (Int × (List (List Int) × (List (List Int × List Int) × (List Int × (Int × (Int × (Int × Unit)))))))))))))
  | 0, _, _, _, _, _, _, _, _, _, _, _, _, _ => none
  | k + 1, x0, x1, x2, x3, x4, x5, x6, x7, x8, x9, x10, x11, x12 => ref17_Check_l4S F (ref17_Check_l4 F k) x0 x1 x2 x3 x4 x5 x6 x7 x8 x9 x10 x11 x12
def ref17_Check_l2S (F : Nat) (rec : Int → Int → Int → Int → Int → Int → List (List Int) → List (List Int × List Int) → List Int → Int → Int → Int → Option (Unit ⊕ (Int × (Int × (Int × (Int × (Int × (Int × (List (List Int) × (List (List Int × List Int) × (List Int × (Int × (Int × Unit))))))))))))) (x0 : Int) (x1 : Int) (x2 : Int) (x3 : Int) (x4 : Int) (x5 : Int) (x6 : List (List Int)) (x7 : List (List Int × List Int)) (x8 : List Int) (x9 : Int) (x10 : Int) (x11 : Int) : Option (Unit ⊕ (Int × (Int × (Int × (Int × (Int × (Int × (List (List Int) × (List (List Int × List Int) × (List Int × (Int × (Int × Unit)))))))))))) :=
  cond (decide (x11 < x4))
    ((ref17_Check_l4 F F x0 x1 x2 x3 x4 x5 x6 x7 x8 x9 x10 x11 (0 : Int)).bind fun r1145 => match r1145 with
      | .inl r1145 => (some (.inl ()))
      | .inr r1145 => (rec r1145.1 r1145.2.1 r1145.2.2.1 r1145.2.2.2.1 r1145.2.2.2.2.1 r1145.2.2.2.2.2.1 r1145.2.2.2.2.2.2.1 r1145.2.2.2.2.2.2.2.1 r1145.2.2.2.2.2.2.2.2.1 r1145.2.2.2.2.2.2.2.2.2.1 r1145.2.2.2.2.2.2.2.2.2.2.1 (IntKind.wrap .i64 (r1145.2.2.2.2.2.2.2.2.2.2.2.1 + (1 : Int)))))
    (some (.inr (x0, (x1, (x2, (x3, (x4, (x5, (x6, (x7, (x8, (x9, (x10, ())))))))))))))
def ref17_Check_l2 (F : Nat) : Nat → Int → Int → Int → Int → Int → Int → List (List Int) → List (List Int × List Int) → List Int → Int → Int → Int → Option (Unit ⊕ (Int × (Int × (Int × (Int × (Int × (Int × (List (List Int) × (List (List Int × List Int) × (List Int × (Int × (Int × Unit))))))))))))
  | 0, _, _, _, _, _, _, _, _, _, _, _, _ => none
  | k + 1, x0, x1, x2, x3, x4, x5, x6, x7, x8, x9, x10, x11 => ref17_Check_l2S F (ref17_Check_l2 F k) x0 x1 x2 x3 x4 x5 x6 x7 x8 x9 x10 x11
def ref17_Check_l0S (F : Nat) (rec : Int → Int → Int → Int → Int → Int → List (List Int) → List (List Int × List Int) → List Int → Int → Int → Option (Unit ⊕ (Int × (Int × (Int × (Int × (Int × (Int × (List (List Int) × (List (List Int × List Int) × (Int × Unit))))))))))) (x0 : Int) (x1 : Int) (x2 : Int) (x3 : Int) (x4 : Int) (x5 : Int) (x6 : List (List Int)) (x7 : List (List Int × List Int)) (x8 : List Int) (x9 : Int) (x10 : Int) : Option (Unit ⊕ (Int × (Int × (Int × (Int × (Int × (Int × (List (List Int) × (List (List Int × List Int) × (Int × Unit)))))))))) :=
  cond (decide (x10 < x3))
    ((ref17_Check_l2 F F x0 x1 x2 x3 x4 x5 x6 x7 x8 x9 x10 (0 : Int)).bind fun r1148 => match r1148 with
      | .inl r1148 => (some (.inl ()))
      | .inr r1148 => (rec r1148.1 r1148.2.1 r1148.2.2.1 r1148.2.2.2.1 r1148.2.2.2.2.1 r1148.2.2.2.2.2.1 r1148.2.2.2.2.2.2.1 r1148.2.2.2.2.2.2.2.1 r1148.2.2.2.2.2.2.2.2.1 r1148.2.2.2.2.2.2.2.2.2.1 (IntKind.wrap .i64 (r1148.2.2.2.2.2.2.2.2.2.2.1 + (1 : Int)))))
    (some (.inr (x0, (x1, (x2, (x3, (x4, (x5, (x6, (x7, (x9, ())))))))))))
def ref17_Check_l0 (F : Nat) : Nat → Int → Int → Int → Int → Int → Int → List (List Int) → List (List Int × List Int) → List Int → Int → Int → Option (Unit ⊕ (Int × (Int × (Int × (Int × (Int × (Int × (List (List Int) × (List (List Int × List Int) × (Int × Unit))))))))))
  | 0, _, _, _, _, _, _, _, _, _, _, _ => none
  | k + 1, x0, x1, x2, x3, x4, x5, x6, x7, x8, x9, x10 => ref17_Check_l0S F (ref17_Check_l0 F k) x0 x1 x2 x3 x4 x5 x6 x7 x8 x9 x10
def ref17_Check_l8S (F : Nat) (rec : Int → Int → Int → Int → Int → Int → List (List Int) → List (List Int × List Int) → Int → List Int → List Int → Int → List Int → Int → List Int → Int → Int → Bool → Option (Unit ⊕ (Int × (Int × (Int × (Int × (Int × (Int × (List (List Int) × (List (List Int × List Int) × (Int × (List Int × (List Int × (List Int × (Int × (List Int × (Int × (Int × (Bool × Unit))))))))))))))))))) (x0 : Int) (x1 : Int) (x2 : Int) (x3 : Int) (x4 : Int) (x5 : Int) (x6 : List (List Int)) (x7 : List (List Int × List Int)) (x8 : Int) (x9 : List Int) (x10 : List Int) (x11 : Int) (x12 : List Int) (x13 : Int) (x14 : List Int) (x15 : Int) (x16 : Int) (x17 : Bool) : Option (Unit ⊕ (Int × (Int × (Int × (Int × (Int × (Int × (List (List Int) × (List (List Int × List Int) × (Int × (List Int × (List Int × (List Int × (Int × (List Int × (Int × (Int × (Bool × Unit)))))))))))))))))) :=
  let v1219 : Int := (((List.length x9) : Nat) : Int)
  cond (decide (x11 < v1219))
    (cond ((decide ((0 : Int) ≤ x11)) && (decide (x11 < (((List.length x9) : Nat) : Int))))
      (cond ((List.getD x9 (Int.toNat x11) (0 : Int)) == (0 : Int))
        (some (.inl ()))
        (rec x0 x1 x2 x3 x4 x5 x6 x7 x8 x9 x10 (IntKind.wrap .i64 (x11 + (1 : Int))) x12 x13 x14 x15 x16 x17))
      (none))
    (some (.inr (x0, (x1, (x2, (x3, (x4, (x5, (x6, (x7, (x8, (x9, (x10, (x12, (x13, (x14, (x15, (x16, (x17, ())))))))))))))))))))
def ref17_Check_l8 (F : Nat) : Nat → Int → Int → Int → Int → Int → Int → List (List Int) → List (List Int × List Int) → Int → List Int → List Int → Int → List Int → Int → List Int → Int → Int → Bool → Option (Unit ⊕ (Int × (Int × (Int × (Int × (Int × (Int × (List (List Int) × (List (List Int × List Int) × (Int × (List Int × (List Int × (List Int × (Int × (List Int × (Int × (Int × (Bool × Unit))))))))))))))))))
  | 0, _, _, _, _, _, _, _, _, _, _, _, _, _, _, _, _, _, _ => none
  | k + 1, x0, x1, x2, x3, x4, x5, x6, x7, x8, x9, x10, x11, x12, x13, x14, x15, x16, x17 => ref17_Check_l8S F (ref17_Check_l8 F k) x0 x1 x2 x3 x4 x5 x6 x7 x8 x9 x10 x11 x12 x13 x14 x15 x16 x17
def ref17_Check_l6S (F : Nat) (rec : Int → Int → Int → Int → Int → Int → List (List Int) → List (List Int × List Int) → Int → Option (Unit ⊕ Unit)) (x0 : Int) (x1 : Int) (x2 : Int) (x3 : Int) (x4 : Int) (x5 : Int) (x6 : List (List Int)) (x7 : List (List Int × List Int)) (x8 : Int) : Option (Unit ⊕ Unit) :=
  let v1204 : Int := (((List.length x7) : Nat) : Int)
  cond (decide (x8 < v1204))
    (cond ((decide ((0 : Int) ≤ x8)) && (decide (x8 < (((List.length x7) : Nat) : Int))))
      (let d1207 : (List Int × List Int) := (List.getD x7 (Int.toNat x8) ([], []))
      cond (d1207.1 == (bytesL (ByteArray.mk (List.toArray []))))
        (some (.inl ()))
        (let v1209 : Int := (((List.length d1207.1) : Nat) : Int)
        let v1210 : Int := (((List.length d1207.2) : Nat) : Int)
        let v1211 : Int := (IntKind.wrap .i64 (v1209 + v1210))
        let b1212 : Bool := (decide ((65535 : Int) < v1211))
        cond b1212
          (some (.inl ()))
          ((ref17_Check_l8 F F x0 x1 x2 x3 x4 x5 x6 x7 x8 d1207.1 d1207.2 (0 : Int) d1207.1 v1209 d1207.2 v1210 v1211 b1212).bind fun r1225 => match r1225 with
            | .inl r1225 => (some (.inl ()))
            | .inr r1225 => (rec r1225.1 r1225.2.1 r1225.2.2.1 r1225.2.2.2.1 r1225.2.2.2.2.1 r1225.2.2.2.2.2.1 r1225.2.2.2.2.2.2.1 r1225.2.2.2.2.2.2.2.1 (IntKind.wrap .i64 (r1225.2.2.2.2.2.2.2.2.1 + (1 : Int)))))))
      (none))
    (some (.inr ()))
def ref17_Check_l6 (F : Nat) : Nat → Int → Int → Int → Int → Int → Int → List (List Int) → List (List Int × List Int) → Int → Option (Unit ⊕ Unit)
  | 0, _, _, _, _, _, _, _, _, _ => none
  | k + 1, x0, x1, x2, x3, x4, x5, x6, x7, x8 => ref17_Check_l6S F (ref17_Check_l6 F k) x0 x1 x2 x3 x4 x5 x6 x7 x8
def ref17_Check (F : Nat) (a0 : (Int × (Int × (Int × (Int × (Int × (Int × (List (List Int) × (List (List Int × List Int) × Unit))))))))) (a1 : (Int × (Int × (Int × Unit)))) : Option (Int × Unit) :=
  (ref17_Header F (a0.1, (a0.2.1, (a0.2.2.1, (a0.2.2.2.1, (a0.2.2.2.2.1, (a0.2.2.2.2.2.1, (a0.2.2.2.2.2.2.1, (a0.2.2.2.2.2.2.2.1, ())))))))) (a1.1, (a1.2.1, (a1.2.2.1, ())))).bind fun r822 =>
  cond (r822.1 != (0 : Int))
    (some (r822.1, ()))
    ((ref17_Sizes F a0.1 a0.2.1 a0.2.2.1 a0.2.2.2.2.2.1).bind fun r908 =>
    cond (r908.2.1 != (0 : Int))
      (some ((1 : Int), ()))
      ((ref17_Check_l0 F F a0.1 a0.2.1 a0.2.2.1 a0.2.2.2.1 a0.2.2.2.2.1 a0.2.2.2.2.2.1 a0.2.2.2.2.2.2.1 a0.2.2.2.2.2.2.2.1 r908.1 (0 : Int) (0 : Int)).bind fun r1151 => match r1151 with
        | .inl r1151 => (some ((1 : Int), ()))
        | .inr r1151 => (cond (r1151.2.2.2.2.2.2.2.2.1 != (((List.length r1151.2.2.2.2.2.2.1) : Nat) : Int))
            (some ((1 : Int), ()))
            ((ref17_Check_l6 F F r1151.1 r1151.2.1 r1151.2.2.1 r1151.2.2.2.1 r1151.2.2.2.2.1 r1151.2.2.2.2.2.1 r1151.2.2.2.2.2.2.1 r1151.2.2.2.2.2.2.2.1 (0 : Int)).bind fun r1227 => match r1227 with
              | .inl r1227 => (some ((8 : Int), ()))
              | .inr r1227 => (some ((0 : Int), ()))))))
def law17_LayoutWhole_l6S (F : Nat) (rec : Int → Int → Int → Int → Int → Int → List (List Int) → List (List Int × List Int) → Bool → Int → Int → Bool → Int → Int → Int → Int → List Int → Int → Int → Int → Int → List (List Int) → Int → Bool → Option (Unit ⊕ (Int × (Int × (Int × (Int × (Int × (Int × (List (List Int) × (List (List Int × List Int) × (Bool × (Int × (Int × (Bool × (Int × (Int × (Int × (Int × (List Int × (Int × (List (List Int) × (Int × (Bool × Unit))))))))))))))))))))))) (x0 : Int) (x1 : Int) (x2 : Int) (x3 : Int) (x4 : Int) (x5 : Int) (x6 : List (List Int)) (x7 : List (List Int × List Int)) (x8 : Bool) (x9 : Int) (x10 : Int) (x11 : Bool) (x12 : Int) (x13 : Int) (x14 : Int) (x15 : Int) (x16 : List Int) (x17 : Int) (x18 : Int) (x19 : Int) (x20 : Int) (x21 : List (List Int)) (x22 : Int) (x23 : Bool) : Option (Unit ⊕ (Int × (Int × (Int × (Int × (Int × (Int × (List (List Int) × (List (List Int × List Int) × (Bool × (Int × (Int × (Bool × (Int × (Int × (Int × (Int × (List Int × (Int × (List (List Int) × (Int × (Bool × Unit)))))))))))))))))))))) :=
  let v1943 : Int := (IntKind.wrap .i64 (x17 * x18))
  cond (decide (x19 < v1943))
    (let b1945 : Bool := (!(x17 == (0 : Int)))
    cond b1945
      (cond b1945
        (let v1947 : Int := (IntKind.wrap .i64 (Int.tdiv x19 x17))
        (layout_Block F (x0, (x1, (x2, (x3, (x4, (x5, (x6, (x7, ())))))))) x13 x14 x15 (Int.tmod x19 x17) v1947).bind fun r1948 =>
        let n1949 : Nat := (List.length r1948.1)
        let b1950 : Bool := (r1948.2.1 != (0 : Int))
        cond b1950
          (some (.inl ()))
          (let v1951 : Int := ((n1949 : Nat) : Int)
          let b1952 : Bool := (v1951 != x9)
          cond b1952
            (some (.inl ()))
            (cond ((decide (((List.length x16) + n1949) ≤ 1099511627776)) && true)
              (rec x0 x1 x2 x3 x4 x5 x6 x7 x8 x9 x10 x11 x12 x13 x14 x15 (x16 ++ r1948.1) x17 x18 (IntKind.wrap .i64 (x19 + (1 : Int))) x20 x21 x22 x23)
              (none))))
        (none))
      (none))
    (some (.inr (x0, (x1, (x2, (x3, (x4, (x5, (x6, (x7, (x8, (x9, (x10, (x11, (x12, (x13, (x14, (x15, (x16, (x20, (x21, (x22, (x23, ())))))))))))))))))))))))
def law17_LayoutWhole_l6 (F : Nat) : Nat → Int → Int → Int → Int → Int → Int → List (List Int) → List (List Int × List Int) → Bool → Int → Int → Bool → Int → Int → Int → Int → List Int → Int → Int → Int → Int → List (List Int) → Int → Bool → Option (Unit ⊕ (Int × (Int × (Int × (Int × (Int × (Int × (List (List Int) × (List (List Int × List Int) × (Bool × (Int × (Int × (Bool × (Int × (Int × (Int × (Int × (List Int × (Int × (List (List Int) × (Int × (Bool × Unit))))))))))))))))))))))
  | 0, _, _, _, _, _, _, _, _, _, _, _, _, _, _, _, _, _, _, _, _, _, _, _, _ => none
  | k + 1, x0, x1, x2, x3, x4, x5, x6, x7, x8, x9, x10, x11, x12, x13, x14, x15, x16, x17, x18, x19, x20, x21, x22, x23 => law17_LayoutWhole_l6S F (law17_LayoutWhole_l6 F k) x0 x1 x2 x3 x4 x5 x6 x7 x8 x9 x10 x11 x12 x13 x14 x15 x16 x17 x18 x19 x20 x21 x22 x23
def law17_LayoutWhole_l4S (F : Nat) (rec : Int → Int → Int → Int → Int → Int → List (List Int) → List (List Int × List Int) → Bool → Int → Int → Bool → Int → Int → Int → Int → Option (Unit ⊕ (Int × (Int × (Int × (Int × (Int × (Int × (List (List Int) × (List (List Int × List Int) × (Bool × (Int × (Int × (Bool × (Int × (Int × (Int × Unit))))))))))))))))) (x0 : Int) (x1 : Int) (x2 : Int) (x3 : Int) (x4 : Int) (x5 : Int) (x6 : List (List Int)) (x7 : List (List Int × List Int)) (x8 : Bool) (x9 : Int) (x10 : Int) (x11 : Bool) (x12 : Int) (x13 : Int) (x14 : Int) (x15 : Int) : Option (Unit ⊕ (Int × (Int × (Int × (Int × (Int × (Int × (List (List Int) × (List (List Int × List Int) × (Bool × (Int × (Int × (Bool × (Int × (Int × (Int × Unit)))))))))))))))) :=
  cond (decide (x15 < x5))
    ((layout_Index F (x0, (x1, (x2, (x3, (x4, (x5, (x6, (x7, ())))))))) x13 x14 x15).bind fun r1920 =>
    cond (r1920.1 != x12)
      (some (.inl ()))
      (let v1922 : Int := (((List.length x6) : Nat) : Int)
      let b1923 : Bool := (decide (v1922 ≤ x12))
      cond b1923
        (some (.inl ()))
        ((mip_Side F x1 x15).bind fun r1924 =>
        (mip_Side F x2 x15).bind fun r1925 =>
        (image_Tiles F r1924.1 r1925.1).bind fun r1926 =>
        (law17_LayoutWhole_l6 F F x0 x1 x2 x3 x4 x5 x6 x7 x8 x9 x10 x11 x12 x13 x14 x15 [] r1926.1 r1926.2.1 (0 : Int) x12 x6 v1922 b1923).bind fun r1957 => match r1957 with
          | .inl r1957 => (some (.inl ()))
          | .inr r1957 => (cond ((decide ((0 : Int) ≤ r1957.2.2.2.2.2.2.2.2.2.2.2.2.1)) && (decide (r1957.2.2.2.2.2.2.2.2.2.2.2.2.1 < (((List.length r1957.2.2.2.2.2.2.1) : Nat) : Int))))
              ((ref01_Same F r1957.2.2.2.2.2.2.2.2.2.2.2.2.2.2.2.2.1 (List.getD r1957.2.2.2.2.2.2.1 (Int.toNat r1957.2.2.2.2.2.2.2.2.2.2.2.2.1) [])).bind fun r1961 =>
              cond (!r1961.1)
                (some (.inl ()))
                (rec r1957.1 r1957.2.1 r1957.2.2.1 r1957.2.2.2.1 r1957.2.2.2.2.1 r1957.2.2.2.2.2.1 r1957.2.2.2.2.2.2.1 r1957.2.2.2.2.2.2.2.1 r1957.2.2.2.2.2.2.2.2.1 r1957.2.2.2.2.2.2.2.2.2.1 r1957.2.2.2.2.2.2.2.2.2.2.1 r1957.2.2.2.2.2.2.2.2.2.2.2.1 (IntKind.wrap .i64 (r1957.2.2.2.2.2.2.2.2.2.2.2.2.1 + (1 : Int))) r1957.2.2.2.2.2.2.2.2.2.2.2.2.2.1 r1957.2.2.2.2.2.2.2.2.2.2.2.2.2.2.1 (IntKind.wrap .i64 (r1957.2.2.2.2.2.2.2.2.2.2.2.2.2.2.2.1 + (1 : Int)))))
              (none)))))
    (some (.inr (x0, (x1, (x2, (x3, (x4, (x5, (x6, (x7, (x8, (x9, (x10, (x11, (x12, (x13, (x14, ())))))))))))))))))
def law17_LayoutWhole_l4 (F : Nat) : Nat → Int → Int → Int → Int → Int → Int → List (List Int) → List (List Int × List Int) → Bool → Int → Int → Bool → Int → Int → Int → Int → Option (Unit ⊕ (Int × (Int × (Int × (Int × (Int × (Int × (List (List Int) × (List (List Int × List Int) × (Bool × (Int × (Int × (Bool × (Int × (Int × (Int × Unit))))))))))))))))
  | 0, _, _, _, _, _, _, _, _, _, _, _, _, _, _, _, _ => none
  | k + 1, x0, x1, x2, x3, x4, x5, x6, x7, x8, x9, x10, x11, x12, x13, x14, x15 => law17_LayoutWhole_l4S F (law17_LayoutWhole_l4 F k) x0 x1 x2 x3 x4 x5 x6 x7 x8 x9 x10 x11 x12 x13 x14 x15
def law17_LayoutWhole_l2S (F : Nat) (rec : Int → Int → Int → Int → Int → Int → List (List Int) → List (List Int × List Int) → Bool → Int → Int → Bool → Int → Int → Int → Option (Unit ⊕ (Int × (Int × (Int × (Int × (Int × (Int × (List (List Int) × (List (List Int × List Int) × (Bool × (Int × (Int × (Bool × (Int × (Int × Unit)))))))))))))))) (x0 : Int) (x1 : Int) (x2 : Int) (x3 : Int) (x4 : Int) (x5 : Int) (x6 : List (List Int)) (x7 : List (List Int × List Int)) (x8 : Bool) (x9 : Int) (x10 : Int) (x11 : Bool) (x12 : Int) (x13 : Int) (x14 : Int) : Option (Unit ⊕ (Int × (Int × (Int × (Int × (Int × (Int × (List (List Int) × (List (List Int × List Int) × (Bool × (Int × (Int × (Bool × (Int × (Int × Unit))))))))))))))) :=
  cond (decide (x14 < x4))
    ((law17_LayoutWhole_l4 F F x0 x1 x2 x3 x4 x5 x6 x7 x8 x9 x10 x11 x12 x13 x14 (0 : Int)).bind fun r1965 => match r1965 with
      | .inl r1965 => (some (.inl ()))
      | .inr r1965 => (rec r1965.1 r1965.2.1 r1965.2.2.1 r1965.2.2.2.1 r1965.2.2.2.2.1 r1965.2.2.2.2.2.1 r1965.2.2.2.2.2.2.1 r1965.2.2.2.2.2.2.2.1 r1965.2.2.2.2.2.2.2.2.1 r1965.2.2.2.2.2.2.2.2.2.1 r1965.2.2.2.2.2.2.2.2.2.2.1 r1965.2.2.2.2.2.2.2.2.2.2.2.1 r1965.2.2.2.2.2.2.2.2.2.2.2.2.1 r1965.2.2.2.2.2.2.2.2.2.2.2.2.2.1 (IntKind.wrap .i64 (r1965.2.2.2.2.2.2.2.2.2.2.2.2.2.2.1 + (1 : Int)))))
    (some (.inr (x0, (x1, (x2, (x3, (x4, (x5, (x6, (x7, (x8, (x9, (x10, (x11, (x12, (x13, ()))))))))))))))))
def law17_LayoutWhole_l2 (F : Nat) : Nat → Int → Int → Int → Int → Int → Int → List (List Int) → List (List Int × List Int) → Bool → Int → Int → Bool → Int → Int → Int → Option (Unit ⊕ (Int × (Int × (Int × (Int × (Int × (Int × (List (List Int) × (List (List Int × List Int) × (Bool × (Int × (Int × (Bool × (Int × (Int × Unit)))))))))))))))
  | 0, _, _, _, _, _, _, _, _, _, _, _, _, _, _, _ => none
  | k + 1, x0, x1, x2, x3, x4, x5, x6, x7, x8, x9, x10, x11, x12, x13, x14 => law17_LayoutWhole_l2S F (law17_LayoutWhole_l2 F k) x0 x1 x2 x3 x4 x5 x6 x7 x8 x9 x10 x11 x12 x13 x14
def law17_LayoutWhole_l0S (F : Nat) (rec : Int → Int → Int → Int → Int → Int → List (List Int) → List (List Int × List Int) → Bool → Int → Int → Bool → Int → Int → Option (Unit ⊕ (Int × (Int × (Int × (Int × (Int × (Int × (List (List Int) × (List (List Int × List Int) × (Bool × (Int × Unit)))))))))))) (x0 : Int) (x1 : Int) (x2 : Int) (x3 : Int) (x4 : Int) (x5 : Int) (x6 : List (List Int)) (x7 : List (List Int × List Int)) (x8 : Bool) (x9 : Int) (x10 : Int) (x11 : Bool) (x12 : Int) (x13 : Int) : Option (Unit ⊕ (Int × (Int × (Int × (Int × (Int × (Int × (List (List Int) × (List (List Int × List Int) × (Bool × (Int × Unit))))))))))) :=
  cond (decide (x13 < x3))
    ((law17_LayoutWhole_l2 F F x0 x1 x2 x3 x4 x5 x6 x7 x8 x9 x10 x11 x12 x13 (0 : Int)).bind fun r1967 => match r1967 with
      | .inl r1967 => (some (.inl ()))
      | .inr r1967 => (rec r1967.1 r1967.2.1 r1967.2.2.1 r1967.2.2.2.1 r1967.2.2.2.2.1 r1967.2.2.2.2.2.1 r1967.2.2.2.2.2.2.1 r1967.2.2.2.2.2.2.2.1 r1967.2.2.2.2.2.2.2.2.1 r1967.2.2.2.2.2.2.2.2.2.1 r1967.2.2.2.2.2.2.2.2.2.2.1 r1967.2.2.2.2.2.2.2.2.2.2.2.1 r1967.2.2.2.2.2.2.2.2.2.2.2.2.1 (IntKind.wrap .i64 (r1967.2.2.2.2.2.2.2.2.2.2.2.2.2.1 + (1 : Int)))))
    (some (.inr (x0, (x1, (x2, (x3, (x4, (x5, (x6, (x7, (x8, (x12, ()))))))))))))
def law17_LayoutWhole_l0 (F : Nat) : Nat → Int → Int → Int → Int → Int → Int → List (List Int) → List (List Int × List Int) → Bool → Int → Int → Bool → Int → Int → Option (Unit ⊕ (Int × (Int × (Int × (Int × (Int × (Int × (List (List Int) × (List (List Int × List Int) × (Bool × (Int × Unit)))))))))))
  | 0, _, _, _, _, _, _, _, _, _, _, _, _, _, _ => none
  | k + 1, x0, x1, x2, x3, x4, x5, x6, x7, x8, x9, x10, x11, x12, x13 => law17_LayoutWhole_l0S F (law17_LayoutWhole_l0 F k) x0 x1 x2 x3 x4 x5 x6 x7 x8 x9 x10 x11 x12 x13
def law17_LayoutWhole (F : Nat) (a0 : (Int × (Int × (Int × (Int × (Int × (Int × (List (List Int) × (List (List Int × List Int) × Unit))))))))) : Option (Bool × Unit) :=
  (law17_awake F).bind fun r1232 =>
  (ref17_Light F (a0.1, (a0.2.1, (a0.2.2.1, (a0.2.2.2.1, (a0.2.2.2.2.1, (a0.2.2.2.2.2.1, (a0.2.2.2.2.2.2.1, (a0.2.2.2.2.2.2.2.1, ()))))))))).bind fun r1233 =>
  cond (!r1233.1)
    (some (r1232.1, ()))
    ((law17_fair F (a0.1, (a0.2.1, (a0.2.2.1, (a0.2.2.2.1, (a0.2.2.2.2.1, (a0.2.2.2.2.2.1, (a0.2.2.2.2.2.2.1, (a0.2.2.2.2.2.2.2.1, ()))))))))).bind fun r1235 =>
    cond (!r1235.1)
      (some (r1232.1, ()))
      ((ref17_Wide F).bind fun r1237 =>
      (layout_Check F (a0.1, (a0.2.1, (a0.2.2.1, (a0.2.2.2.1, (a0.2.2.2.2.1, (a0.2.2.2.2.2.1, (a0.2.2.2.2.2.2.1, (a0.2.2.2.2.2.2.2.1, ())))))))) (r1237.1.1, (r1237.1.2.1, (r1237.1.2.2.1, ())))).bind fun r1238 =>
      cond (r1238.1 != (0 : Int))
        (some (r1232.1, ()))
        ((format_Of F a0.1).bind fun r1240 =>
        (law17_LayoutWhole_l0 F F a0.1 a0.2.1 a0.2.2.1 a0.2.2.2.1 a0.2.2.2.2.1 a0.2.2.2.2.2.1 a0.2.2.2.2.2.2.1 a0.2.2.2.2.2.2.2.1 r1232.1 r1240.1.1 r1240.1.2.1 r1240.1.2.2.1 (0 : Int) (0 : Int)).bind fun r1969 => match r1969 with
          | .inl r1969 => (some (false, ()))
          | .inr r1969 => (cond r1969.2.2.2.2.2.2.2.2.1
              (some ((r1969.2.2.2.2.2.2.2.2.2.1 == (((List.length r1969.2.2.2.2.2.2.1) : Nat) : Int)), ()))
              (some (false, ()))))))
end Go.AE.Gn
set_option linter.unusedSimpArgs false
set_option maxRecDepth 100000
set_option linter.unusedVariables false
namespace Go.Proofs.Ytcjfigcbloploaa
open Go Go.AE Go.AE.Gn
theorem callable : Callable Try.prog := callable_of (by kernel_rfl)
def format_Of_tab (F : Nat) : List ToldF := []
theorem format_Of_all (F : Nat) : AllOk Try.prog (format_Of_tab F) := trivial
def format_Of_told (F : Nat) : ToldF := ⟨26, 1, [.slot 0 (.int .i64)], [.ty (.agg [.int .i64, .int .i64, .bool]), .ty (.int .i64)], u1 (format_Of F)⟩
theorem format_Of_ok (F : Nat) : (format_Of_told F).ok Try.prog :=
  okF callable (format_Of_all F) (fn := Try.f26) [] (by kernel_rfl) aN fun d => by kernel_rfl
def mip_half_tab (F : Nat) : List ToldF := []
theorem mip_half_all (F : Nat) : AllOk Try.prog (mip_half_tab F) := trivial
def mip_half_told (F : Nat) : ToldF := ⟨97, 1, [.slot 0 (.int .i64)], [.ty (.int .i64)], u1 (mip_half F)⟩
theorem mip_half_ok (F : Nat) : (mip_half_told F).ok Try.prog :=
  okF callable (mip_half_all F) (fn := Try.f97) [] (by kernel_rfl) aN fun d => by kernel_rfl
def mip_sizes_c1_tab (F : Nat) : List ToldF := [mip_half_told F]
theorem mip_sizes_c1_all (F : Nat) : AllOk Try.prog (mip_sizes_c1_tab F) := ⟨mip_half_ok F, trivial⟩
theorem mip_sizes_c1_it (F : Nat) : ItSpec Try.prog 96 encsII okII 2 [.segs [.hole (.int .i64)] (.slot 0) true, .ptr 0 1 1, .segs [.hole (.int .i64)] (.slot 1) true, .ptr 1 2 1] (u2 (mip_sizes_c1 F)) :=
  itSpec_loop callable (calT_ok callable (mip_sizes_c1_all F)) (qcalT_ok (mip_sizes_c1_all F)) (fn := Try.f96) (c := (bodyOf Try.f96)) (by kernel_rfl) (by kernel_rfl) (loop_split (k := 0) (id := 0) (by kernel_rfl)) decII_ok (nt := 28) (its := [.segs [.hole (.int .i64)] (.slot 1) true, .ptr 1 1 1, .segs [.hole (.int .i64)] (.slot 2) true, .ptr 2 2 1]) (fun d => rfl) (fun d => rfl) (fun k l => u2 (sizesT (mip_half F) k l)) F (fun _ _ => rfl) (fun k l d => by kernel_rfl) (fun l d => Eq.trans (by kernel_rfl : _ = u2 (sizesT (mip_half F) F l) d) (sizes_tag _ l F _ _))
def mip_Levels_tab (F : Nat) : List ToldF := []
theorem mip_Levels_all (F : Nat) : AllOk Try.prog (mip_Levels_tab F) := trivial
def mip_Levels_told (F : Nat) : ToldF := ⟨45, 2, [.slot 0 (.int .i64), .slot 1 (.int .i64)], [.ty (.int .i64)], u2 (mip_Levels F)⟩
theorem mip_Levels_ok (F : Nat) : (mip_Levels_told F).ok Try.prog :=
  fnSpec_range callable (calT_ok callable (mip_Levels_all F)) (qcalT_ok (mip_Levels_all F)) (fn := Try.f45) (gfn := Try.f96) (c := (bodyOf Try.f45)) (by kernel_rfl) (by kernel_rfl) (rng_split (k := 3) (out := 0) (g := 8) (by kernel_rfl)) (by kernel_rfl) (by kernel_rfl) (fun x => by kernel_rfl) encII_rel (mip_sizes_c1_it F) (by kernel_rfl) (by kernel_rfl) (nt := 14) (its := [.segs [.hole (.int .i64)] (.slot 5) true, .ptr 5 1 1]) (outX := []) (eX := .normal) (step := fun x => u1 (mip_Levels_r F x)) (fun x d => by kernel_rfl) (fun d => by kernel_rfl) (fun d => by kernel_rfl)
def mip_Side_tab (F : Nat) : List ToldF := []
theorem mip_Side_all (F : Nat) : AllOk Try.prog (mip_Side_tab F) := trivial
def mip_Side_told (F : Nat) : ToldF := ⟨29, 2, [.slot 0 (.int .i64), .slot 1 (.int .i64)], [.ty (.int .i64)], u2 (mip_Side F)⟩
theorem mip_Side_ok (F : Nat) : (mip_Side_told F).ok Try.prog :=
  fnSpec_range callable (calT_ok callable (mip_Side_all F)) (qcalT_ok (mip_Side_all F)) (fn := Try.f29) (gfn := Try.f96) (c := (bodyOf Try.f29)) (by kernel_rfl) (by kernel_rfl) (rng_split (k := 5) (out := 0) (g := 10) (by kernel_rfl)) (by kernel_rfl) (by kernel_rfl) (fun x => by kernel_rfl) encII_rel (mip_sizes_c1_it F) (by kernel_rfl) (by kernel_rfl) (nt := 19) (its := [.segs [.hole (.int .i64)] (.slot 3) true, .ptr 3 1 1, .segs [.hole (.int .i64)] (.slot 5) true, .ptr 5 2 1]) (outX := [.segs [.hole (.int .i64)] (.slot 5) true, .ptr 5 1 1]) (eX := (.exit 0)) (step := fun x => u2 (mip_Side_r F x)) (fun x d => by kernel_rfl) (fun d => by kernel_rfl) (fun d => by kernel_rfl)
def layout_levels_c1_tab (F : Nat) : List ToldF := [mip_Side_told F]
theorem layout_levels_c1_all (F : Nat) : AllOk Try.prog (layout_levels_c1_tab F) := ⟨mip_Side_ok F, trivial⟩
theorem layout_levels_c1_it (F : Nat) : ItSpec Try.prog 92 encsII okII 3 [.segs [.hole (.int .i64)] (.slot 0) true, .ptr 0 1 1, .segs [.hole (.int .i64)] (.slot 1) true, .ptr 1 2 1, .segs [.hole (.int .i64)] (.slot 2) true, .ptr 2 3 1] (u3 (layout_levels_c1 F)) :=
  itSpec_loop callable (calT_ok callable (layout_levels_c1_all F)) (qcalT_ok (layout_levels_c1_all F)) (fn := Try.f92) (c := (bodyOf Try.f92)) (by kernel_rfl) (by kernel_rfl) (loop_split (k := 1) (id := 0) (by kernel_rfl)) decII_ok (nt := 20) (its := [.slot 6 (.int .i64), .slot 7 (.int .i64), .segs [.hole (.int .i64)] (.slot 2) true, .ptr 2 1 1, .segs [.hole (.int .i64)] (.slot 3) true, .ptr 3 2 1]) (fun d => rfl) (fun d => rfl) (fun k l => u4 (levelsT (mip_Side F) k l)) F (fun _ _ => rfl) (fun k l d => by kernel_rfl) (fun l d => Eq.trans (by kernel_rfl : _ = u3 (fun n w h => levelsT (mip_Side F) F l n 0 w h) d) (levels_tag _ l F _ _ _ _))
def image_Tiles_tab (F : Nat) : List ToldF := []
theorem image_Tiles_all (F : Nat) : AllOk Try.prog (image_Tiles_tab F) := trivial
def image_Tiles_told (F : Nat) : ToldF := ⟨28, 2, [.slot 0 (.int .i64), .slot 1 (.int .i64)], [.ty (.int .i64), .ty (.int .i64)], u2 (image_Tiles F)⟩
theorem image_Tiles_ok (F : Nat) : (image_Tiles_told F).ok Try.prog :=
  okF callable (image_Tiles_all F) (fn := Try.f28) [] (by kernel_rfl) aN fun d => by kernel_rfl
def field_Times_tab (F : Nat) : List ToldF := []
theorem field_Times_all (F : Nat) : AllOk Try.prog (field_Times_tab F) := trivial
def field_Times_told (F : Nat) : ToldF := ⟨47, 2, [.slot 0 (.int .i64), .slot 1 (.int .i64)], [.ty (.int .i64), .ty (.int .i64)], u2 (field_Times F)⟩
theorem field_Times_ok (F : Nat) : (field_Times_told F).ok Try.prog :=
  okF callable (field_Times_all F) (fn := Try.f47) [] (by kernel_rfl) aN fun d => by kernel_rfl
def format_Bytes_tab (F : Nat) : List ToldF := [format_Of_told F, image_Tiles_told F, field_Times_told F]
theorem format_Bytes_all (F : Nat) : AllOk Try.prog (format_Bytes_tab F) := ⟨format_Of_ok F, image_Tiles_ok F, field_Times_ok F, trivial⟩
def format_Bytes_told (F : Nat) : ToldF := ⟨91, 3, [.slot 0 (.int .i64), .slot 1 (.int .i64), .slot 2 (.int .i64)], [.ty (.int .i64), .ty (.int .i64)], u3 (format_Bytes F)⟩
theorem format_Bytes_ok (F : Nat) : (format_Bytes_told F).ok Try.prog :=
  okF callable (format_Bytes_all F) (fn := Try.f91) [] (by kernel_rfl) aN fun d => by kernel_rfl
def layout_Sizes_tab (F : Nat) : List ToldF := [format_Of_told F, mip_Levels_told F, format_Bytes_told F]
theorem layout_Sizes_all (F : Nat) : AllOk Try.prog (layout_Sizes_tab F) := ⟨format_Of_ok F, mip_Levels_ok F, format_Bytes_ok F, trivial⟩
def layout_Sizes_told (F : Nat) : ToldF := ⟨44, 4, [.slot 0 (.int .i64), .slot 1 (.int .i64), .slot 2 (.int .i64), .slot 3 (.int .i64)], [.row .i64 1, .ty (.int .i64)], u4 (layout_Sizes F)⟩
theorem layout_Sizes_ok (F : Nat) : (layout_Sizes_told F).ok Try.prog :=
  fnSpec_range callable (calT_ok callable (layout_Sizes_all F)) (qcalT_ok (layout_Sizes_all F)) (fn := Try.f44) (gfn := Try.f92) (c := (bodyOf Try.f44)) (by kernel_rfl) (by kernel_rfl) (rng_split (k := 8) (out := 0) (g := 45) (by kernel_rfl)) (by kernel_rfl) (by kernel_rfl) (fun x => by kernel_rfl) encII_rel (layout_levels_c1_it F) (by kernel_rfl) (by kernel_rfl) (nt := 63) (its := [.segs [.hole (.int .i64)] (.slot 4) true, .ptr 4 1 1, .segs [.const .nils] (.slot 8) true, .ptr 8 2 1, .segs [.const (.int .i64 (some 0) 0)] (.slot 9) true, .ptr 9 3 1, .row .i64 1 (.cell (.slot 12) 0) true, .segs [.sl 4 1 .own] (.slot 12) true, .ptr 12 5 1]) (outX := [.segs [.const .nils] (.slot 8) true, .ptr 8 1 1, .segs [.hole (.int .i64)] (.slot 9) true, .ptr 9 2 1]) (eX := .ret) (step := fun x => u2 (layout_Sizes_r F x)) (fun x d => by kernel_rfl) (fun d => by kernel_rfl) (fun d => by kernel_rfl)
def field_Sum_tab (F : Nat) : List ToldF := []
theorem field_Sum_all (F : Nat) : AllOk Try.prog (field_Sum_tab F) := trivial
def field_Sum_told (F : Nat) : ToldF := ⟨48, 2, [.slot 0 (.int .i64), .slot 1 (.int .i64)], [.ty (.int .i64), .ty (.int .i64)], u2 (field_Sum F)⟩
theorem field_Sum_ok (F : Nat) : (field_Sum_told F).ok Try.prog :=
  okF callable (field_Sum_all F) (fn := Try.f48) [] (by kernel_rfl) aN fun d => by kernel_rfl
def layout_Texels_tab (F : Nat) : List ToldF := [mip_Levels_told F, field_Times_told F, field_Sum_told F]
theorem layout_Texels_all (F : Nat) : AllOk Try.prog (layout_Texels_tab F) := ⟨mip_Levels_ok F, field_Times_ok F, field_Sum_ok F, trivial⟩
def layout_Texels_told (F : Nat) : ToldF := ⟨17, 1, [.slot 0 (.agg [.int .i64, .int .i64, .int .i64, .int .i64, .int .i64, .int .i64, .dsl (.row .u8 1), .dsl (.pair)])], [.ty (.int .i64), .ty (.int .i64)], u1 (layout_Texels F)⟩
theorem layout_Texels_ok (F : Nat) : (layout_Texels_told F).ok Try.prog :=
  fnSpec_range callable (calT_ok callable (layout_Texels_all F)) (qcalT_ok (layout_Texels_all F)) (fn := Try.f17) (gfn := Try.f92) (c := (bodyOf Try.f17)) (by kernel_rfl) (by kernel_rfl) (rng_split (k := 6) (out := 0) (g := 36) (by kernel_rfl)) (by kernel_rfl) (by kernel_rfl) (fun x => by kernel_rfl) encII_rel (layout_levels_c1_it F) (by kernel_rfl) (by kernel_rfl) (nt := 86) (its := [.segs [.hole (.int .i64), .hole (.int .i64), .hole (.int .i64), .hole (.int .i64), .hole (.int .i64), .hole (.int .i64), .hole (.dsl (.row .u8 1)), .hole (.dsl (.pair))] (.slot 1) true, .ptr 1 1 8, .segs [.const (.int .i64 (some 0) 0)] (.slot 2) true, .ptr 2 2 1, .segs [.const (.int .i64 (some 0) 0)] (.slot 3) true, .ptr 3 3 1, .segs [.hole (.int .i64)] (.slot 4) true, .ptr 4 4 1, .segs [.hole (.int .i64)] (.slot 5) true, .ptr 5 5 1, .slot 6 (.int .i64)]) (outX := [.segs [.const (.int .i64 (some 0) 0)] (.slot 2) true, .ptr 2 1 1, .segs [.hole (.int .i64)] (.slot 3) true, .ptr 3 2 1]) (eX := .ret) (step := fun x => u11 (layout_Texels_r F x)) (fun x d => by kernel_rfl) (fun d => by kernel_rfl) (fun d => by kernel_rfl)
def layout_in_tab (F : Nat) : List ToldF := []
theorem layout_in_all (F : Nat) : AllOk Try.prog (layout_in_tab F) := trivial
def layout_in_told (F : Nat) : ToldF := ⟨64, 2, [.slot 0 (.int .i64), .slot 1 (.int .i64)], [.ty (.bool)], u2 (layout_in F)⟩
theorem layout_in_ok (F : Nat) : (layout_in_told F).ok Try.prog :=
  okF callable (layout_in_all F) (fn := Try.f64) [] (by kernel_rfl) aN fun d => by kernel_rfl
def layout_Index_tab (F : Nat) : List ToldF := []
theorem layout_Index_all (F : Nat) : AllOk Try.prog (layout_Index_tab F) := trivial
def layout_Index_told (F : Nat) : ToldF := ⟨27, 4, [.slot 0 (.agg [.int .i64, .int .i64, .int .i64, .int .i64, .int .i64, .int .i64, .dsl (.row .u8 1), .dsl (.pair)]), .slot 1 (.int .i64), .slot 2 (.int .i64), .slot 3 (.int .i64)], [.ty (.int .i64)], u4 (layout_Index F)⟩
theorem layout_Index_ok (F : Nat) : (layout_Index_told F).ok Try.prog :=
  okF callable (layout_Index_all F) (fn := Try.f27) [] (by kernel_rfl) aN fun d => by kernel_rfl
def field_room_tab (F : Nat) : List ToldF := []
theorem field_room_all (F : Nat) : AllOk Try.prog (field_room_tab F) := trivial
def field_room_told (F : Nat) : ToldF := ⟨98, 3, [.row .u8 1 (.slot 0) false, .slot 1 (.int .i64), .slot 2 (.int .i64)], [.ty (.bool)], u3 (field_room F)⟩
theorem field_room_ok (F : Nat) : (field_room_told F).ok Try.prog :=
  okF callable (field_room_all F) (fn := Try.f98) [] (by kernel_rfl) aN fun d => by kernel_rfl
def slices_Clone_byte_byte_told (F : Nat) : ToldF := ⟨99, 1, [.row .u8 1 (.slot 0) false], [.row .u8 1], fun d => slices_Clone_byte_byte F d.1⟩
theorem slices_Clone_byte_byte_ok (F : Nat) : (slices_Clone_byte_byte_told F).ok Try.prog :=
  clone_spec callable (fn := Try.f99) (f := 99) (k := .u8) (sz := 1) (R0 := cloneR0 (bodyOf Try.f99)) (X := cloneX (bodyOf Try.f99)) (REST := cloneRest (bodyOf Try.f99)) (o3 := cloneO3 (bodyOf Try.f99)) (o4 := cloneO4 (bodyOf Try.f99)) (t := 43) (t' := 43) (e := 5) (i1 := 1) (by kernel_rfl) (by kernel_rfl) (by kernel_rfl) (by kernel_rfl) (by kernel_rfl) (by kernel_rfl) (by kernel_rfl)
    (cloneS1 1 .u8) (cloneS2 1 .u8)
    (fun l => by kernel_rfl) (fun l => by kernel_rfl) (fun l => ⟨rfl, rfl⟩) (fun l => by simp [cloneS2]) (fun l => by kernel_rfl) (fun l => by kernel_rfl)
def field_Part_tab (F : Nat) : List ToldF := [field_room_told F, slices_Clone_byte_byte_told F]
theorem field_Part_all (F : Nat) : AllOk Try.prog (field_Part_tab F) := ⟨field_room_ok F, slices_Clone_byte_byte_ok F, trivial⟩
def field_Part_told (F : Nat) : ToldF := ⟨65, 3, [.row .u8 1 (.slot 0) false, .slot 1 (.int .i64), .slot 2 (.int .i64)], [.row .u8 1, .ty (.int .i64)], u3 (field_Part F)⟩
theorem field_Part_ok (F : Nat) : (field_Part_told F).ok Try.prog :=
  okF callable (field_Part_all F) (fn := Try.f65) [] (by kernel_rfl) aN fun d => by kernel_rfl
def layout_Block_tab (F : Nat) : List ToldF := [format_Of_told F, mip_Side_told F, image_Tiles_told F, layout_in_told F, layout_Index_told F, field_Part_told F]
theorem layout_Block_all (F : Nat) : AllOk Try.prog (layout_Block_tab F) := ⟨format_Of_ok F, mip_Side_ok F, image_Tiles_ok F, layout_in_ok F, layout_Index_ok F, field_Part_ok F, trivial⟩
def layout_Block_told (F : Nat) : ToldF := ⟨30, 6, [.slot 0 (.agg [.int .i64, .int .i64, .int .i64, .int .i64, .int .i64, .int .i64, .dsl (.row .u8 1), .dsl (.pair)]), .slot 1 (.int .i64), .slot 2 (.int .i64), .slot 3 (.int .i64), .slot 4 (.int .i64), .slot 5 (.int .i64)], [.row .u8 1, .ty (.int .i64)], u6 (layout_Block F)⟩
theorem layout_Block_ok (F : Nat) : (layout_Block_told F).ok Try.prog :=
  okF callable (layout_Block_all F) (fn := Try.f30) [] (by kernel_rfl) aN fun d => by kernel_rfl
def ref17_Wide_tab (F : Nat) : List ToldF := []
theorem ref17_Wide_all (F : Nat) : AllOk Try.prog (ref17_Wide_tab F) := trivial
def ref17_Wide_told (F : Nat) : ToldF := ⟨25, 0, [], [.ty (.agg [.int .i64, .int .i64, .int .i64])], u0 (ref17_Wide F)⟩
theorem ref17_Wide_ok (F : Nat) : (ref17_Wide_told F).ok Try.prog :=
  okF callable (ref17_Wide_all F) (fn := Try.f25) [] (by kernel_rfl) aN fun d => by kernel_rfl
def layout_Header_tab (F : Nat) : List ToldF := [format_Of_told F, mip_Levels_told F, layout_Texels_told F]
theorem layout_Header_all (F : Nat) : AllOk Try.prog (layout_Header_tab F) := ⟨format_Of_ok F, mip_Levels_ok F, layout_Texels_ok F, trivial⟩
def layout_Header_told (F : Nat) : ToldF := ⟨20, 2, [.slot 0 (.agg [.int .i64, .int .i64, .int .i64, .int .i64, .int .i64, .int .i64, .dsl (.row .u8 1), .dsl (.pair)]), .slot 1 (.agg [.int .i64, .int .i64, .int .i64])], [.ty (.int .i64)], u2 (layout_Header F)⟩
theorem layout_Header_ok (F : Nat) : (layout_Header_told F).ok Try.prog :=
  okF callable (layout_Header_all F) (fn := Try.f20) [] (by kernel_rfl) aN fun d => by kernel_rfl
def layout_data_tab (F : Nat) : List ToldF := [layout_Sizes_told F]
theorem layout_data_all (F : Nat) : AllOk Try.prog (layout_data_tab F) := ⟨layout_Sizes_ok F, trivial⟩
def layout_data_l0t (F : Nat) : TX := ⟨63, [.segs [.hole (.int .i64), .hole (.int .i64), .hole (.int .i64), .hole (.int .i64), .hole (.int .i64), .hole (.int .i64), .hole (.dsl (.row .u8 1)), .hole (.dsl (.pair))] (.slot 1) true, .ptr 1 1 8, .row .i64 1 (.slot 3) true, .slot 45 (.dsl (.row .u8 1)), .slot 46 (.int .i64), .slot 47 (.int .i64)], [.const 2 (.bool (some false) false)], [], .ret, 0, fun k => u12 (layout_data_l0 F k), fun k => u12 (layout_data_l0S F (layout_data_l0 F k))⟩
theorem layout_data_l0k (F : Nat) : (layout_data_l0t F).ok Try.prog Try.f56 F :=
  okX callable (layout_data_all F) [] aN (fun _ => rfl) (fun _ _ => rfl) (eR rfl) fun k d => by kernel_rfl
def layout_data_told (F : Nat) : ToldF := ⟨56, 1, [.slot 0 (.agg [.int .i64, .int .i64, .int .i64, .int .i64, .int .i64, .int .i64, .dsl (.row .u8 1), .dsl (.pair)])], [.ty (.bool)], u1 (layout_data F)⟩
theorem layout_data_ok (F : Nat) : (layout_data_told F).ok Try.prog :=
  okF callable (layout_data_all F) (fn := Try.f56) [(0, (layout_data_l0t F).ann F)] (by kernel_rfl) (aX (by kernel_rfl) (layout_data_l0k F) aN) fun d => by kernel_rfl
def internal_stringslite_IndexByte_tab (F : Nat) : List ToldF := []
theorem internal_stringslite_IndexByte_all (F : Nat) : AllOk Try.prog (internal_stringslite_IndexByte_tab F) := trivial
def internal_stringslite_IndexByte_told (F : Nat) : ToldF := ⟨93, 2, [.slot 0 (.str), .slot 1 (.int .u8)], [.ty (.int .i64)], u2 (internal_stringslite_IndexByte F)⟩
theorem internal_stringslite_IndexByte_ok (F : Nat) : (internal_stringslite_IndexByte_told F).ok Try.prog :=
  okF callable (internal_stringslite_IndexByte_all F) (fn := Try.f93) [] (by kernel_rfl) aN fun d => by kernel_rfl
def strings_IndexByte_tab (F : Nat) : List ToldF := [internal_stringslite_IndexByte_told F]
theorem strings_IndexByte_all (F : Nat) : AllOk Try.prog (strings_IndexByte_tab F) := ⟨internal_stringslite_IndexByte_ok F, trivial⟩
def strings_IndexByte_told (F : Nat) : ToldF := ⟨55, 2, [.slot 0 (.str), .slot 1 (.int .u8)], [.ty (.int .i64)], u2 (strings_IndexByte F)⟩
theorem strings_IndexByte_ok (F : Nat) : (strings_IndexByte_told F).ok Try.prog :=
  okF callable (strings_IndexByte_all F) (fn := Try.f55) [] (by kernel_rfl) aN fun d => by kernel_rfl
def layout_Check_c1_tab (F : Nat) : List ToldF := [strings_IndexByte_told F]
theorem layout_Check_c1_all (F : Nat) : AllOk Try.prog (layout_Check_c1_tab F) := ⟨strings_IndexByte_ok F, trivial⟩
def layout_Check_c1_told (F : Nat) : ToldF := ⟨54, 1, [.slot 0 (.agg [.str, .str])], [.ty (.bool)], u1 (layout_Check_c1 F)⟩
theorem layout_Check_c1_ok (F : Nat) : (layout_Check_c1_told F).ok Try.prog :=
  okF callable (layout_Check_c1_all F) (fn := Try.f54) [] (by kernel_rfl) aN fun d => by kernel_rfl
def slices_IndexFunc_api_Pair_api_Pair_Check_c1_tab (F : Nat) : List ToldF := [layout_Check_c1_told F]
theorem slices_IndexFunc_api_Pair_api_Pair_Check_c1_all (F : Nat) : AllOk Try.prog (slices_IndexFunc_api_Pair_api_Pair_Check_c1_tab F) := ⟨layout_Check_c1_ok F, trivial⟩
def slices_IndexFunc_api_Pair_api_Pair_Check_c1_l0t (F : Nat) : TX := ⟨19, [.slot 0 (.dsl (.pair)), .fn 1 54 [], .slot 7 (.int .i64), .slot 8 (.int .i64)], [.slot 4 (.int .i64)], [], .ret, 0, fun k => u3 (slices_IndexFunc_api_Pair_api_Pair_Check_c1_l0 F k), fun k => u3 (slices_IndexFunc_api_Pair_api_Pair_Check_c1_l0S F (slices_IndexFunc_api_Pair_api_Pair_Check_c1_l0 F k))⟩
theorem slices_IndexFunc_api_Pair_api_Pair_Check_c1_l0k (F : Nat) : (slices_IndexFunc_api_Pair_api_Pair_Check_c1_l0t F).ok Try.prog Try.f94 F :=
  okX callable (slices_IndexFunc_api_Pair_api_Pair_Check_c1_all F) [] aN (fun _ => rfl) (fun _ _ => rfl) (eR rfl) fun k d => by kernel_rfl
def slices_IndexFunc_api_Pair_api_Pair_Check_c1_told (F : Nat) : ToldF := ⟨94, 2, [.slot 0 (.dsl (.pair)), .fn 1 54 []], [.ty (.int .i64)], u1 (slices_IndexFunc_api_Pair_api_Pair_Check_c1 F)⟩
theorem slices_IndexFunc_api_Pair_api_Pair_Check_c1_ok (F : Nat) : (slices_IndexFunc_api_Pair_api_Pair_Check_c1_told F).ok Try.prog :=
  okF callable (slices_IndexFunc_api_Pair_api_Pair_Check_c1_all F) (fn := Try.f94) [(0, (slices_IndexFunc_api_Pair_api_Pair_Check_c1_l0t F).ann F)] (by kernel_rfl) (aX (by kernel_rfl) (slices_IndexFunc_api_Pair_api_Pair_Check_c1_l0k F) aN) fun d => by kernel_rfl
def slices_ContainsFunc_api_Pair_api_Pair_Check_c1_tab (F : Nat) : List ToldF := [slices_IndexFunc_api_Pair_api_Pair_Check_c1_told F]
theorem slices_ContainsFunc_api_Pair_api_Pair_Check_c1_all (F : Nat) : AllOk Try.prog (slices_ContainsFunc_api_Pair_api_Pair_Check_c1_tab F) := ⟨slices_IndexFunc_api_Pair_api_Pair_Check_c1_ok F, trivial⟩
def slices_ContainsFunc_api_Pair_api_Pair_Check_c1_told (F : Nat) : ToldF := ⟨57, 2, [.slot 0 (.dsl (.pair)), .fn 1 54 []], [.ty (.bool)], u1 (slices_ContainsFunc_api_Pair_api_Pair_Check_c1 F)⟩
theorem slices_ContainsFunc_api_Pair_api_Pair_Check_c1_ok (F : Nat) : (slices_ContainsFunc_api_Pair_api_Pair_Check_c1_told F).ok Try.prog :=
  okF callable (slices_ContainsFunc_api_Pair_api_Pair_Check_c1_all F) (fn := Try.f57) [] (by kernel_rfl) aN fun d => by kernel_rfl
def layout_Check_tab (F : Nat) : List ToldF := [layout_Header_told F, layout_data_told F, slices_ContainsFunc_api_Pair_api_Pair_Check_c1_told F]
theorem layout_Check_all (F : Nat) : AllOk Try.prog (layout_Check_tab F) := ⟨layout_Header_ok F, layout_data_ok F, slices_ContainsFunc_api_Pair_api_Pair_Check_c1_ok F, trivial⟩
def layout_Check_told (F : Nat) : ToldF := ⟨22, 2, [.slot 0 (.agg [.int .i64, .int .i64, .int .i64, .int .i64, .int .i64, .int .i64, .dsl (.row .u8 1), .dsl (.pair)]), .slot 1 (.agg [.int .i64, .int .i64, .int .i64])], [.ty (.int .i64)], u2 (layout_Check F)⟩
theorem layout_Check_ok (F : Nat) : (layout_Check_told F).ok Try.prog :=
  okF callable (layout_Check_all F) (fn := Try.f22) [] (by kernel_rfl) aN fun d => by kernel_rfl
def layout_Same_c1_tab (F : Nat) : List ToldF := []
theorem layout_Same_c1_all (F : Nat) : AllOk Try.prog (layout_Same_c1_tab F) := trivial
def layout_Same_c1_told (F : Nat) : ToldF := ⟨59, 1, [.slot 0 (.agg [.int .i64, .int .i64, .int .i64, .int .i64, .int .i64, .int .i64, .dsl (.row .u8 1), .dsl (.pair)])], [.ty (.is .i64 6)], u1 (layout_Same_c1 F)⟩
theorem layout_Same_c1_ok (F : Nat) : (layout_Same_c1_told F).ok Try.prog :=
  okF callable (layout_Same_c1_all F) (fn := Try.f59) [] (by kernel_rfl) aN fun d => by kernel_rfl
def bytes_Equal_tab (F : Nat) : List ToldF := []
theorem bytes_Equal_all (F : Nat) : AllOk Try.prog (bytes_Equal_tab F) := trivial
def bytes_Equal_told (F : Nat) : ToldF := ⟨61, 2, [.row .u8 1 (.slot 0) false, .row .u8 1 (.slot 1) false], [.ty (.bool)], u2 (bytes_Equal F)⟩
theorem bytes_Equal_ok (F : Nat) : (bytes_Equal_told F).ok Try.prog :=
  okF callable (bytes_Equal_all F) (fn := Try.f61) [] (by kernel_rfl) aN fun d => by kernel_rfl
def slices_EqualFunc_byte_byte_byte_byte_Equal_tab (F : Nat) : List ToldF := [bytes_Equal_told F]
theorem slices_EqualFunc_byte_byte_byte_byte_Equal_all (F : Nat) : AllOk Try.prog (slices_EqualFunc_byte_byte_byte_byte_Equal_tab F) := ⟨bytes_Equal_ok F, trivial⟩
def slices_EqualFunc_byte_byte_byte_byte_Equal_l0t (F : Nat) : TX := ⟨32, [.slot 1 (.dsl (.row .u8 1)), .fn 2 61 [], .slot 15 (.dsl (.row .u8 1)), .slot 16 (.int .i64), .slot 17 (.int .i64)], [.const 6 (.bool (some false) false)], [], .ret, 0, fun k => u4 (slices_EqualFunc_byte_byte_byte_byte_Equal_l0 F k), fun k => u4 (slices_EqualFunc_byte_byte_byte_byte_Equal_l0S F (slices_EqualFunc_byte_byte_byte_byte_Equal_l0 F k))⟩
theorem slices_EqualFunc_byte_byte_byte_byte_Equal_l0k (F : Nat) : (slices_EqualFunc_byte_byte_byte_byte_Equal_l0t F).ok Try.prog Try.f60 F :=
  okX callable (slices_EqualFunc_byte_byte_byte_byte_Equal_all F) [] aN (fun _ => rfl) (fun _ _ => rfl) (eR rfl) fun k d => by kernel_rfl
def slices_EqualFunc_byte_byte_byte_byte_Equal_told (F : Nat) : ToldF := ⟨60, 3, [.slot 0 (.dsl (.row .u8 1)), .slot 1 (.dsl (.row .u8 1)), .fn 2 61 []], [.ty (.bool)], u2 (slices_EqualFunc_byte_byte_byte_byte_Equal F)⟩
theorem slices_EqualFunc_byte_byte_byte_byte_Equal_ok (F : Nat) : (slices_EqualFunc_byte_byte_byte_byte_Equal_told F).ok Try.prog :=
  okF callable (slices_EqualFunc_byte_byte_byte_byte_Equal_all F) (fn := Try.f60) [(0, (slices_EqualFunc_byte_byte_byte_byte_Equal_l0t F).ann F)] (by kernel_rfl) (aX (by kernel_rfl) (slices_EqualFunc_byte_byte_byte_byte_Equal_l0k F) aN) fun d => by kernel_rfl
def slices_Equal_api_Pair_api_Pair_tab (F : Nat) : List ToldF := []
theorem slices_Equal_api_Pair_api_Pair_all (F : Nat) : AllOk Try.prog (slices_Equal_api_Pair_api_Pair_tab F) := trivial
def slices_Equal_api_Pair_api_Pair_l0t (F : Nat) : TX := ⟨26, [.slot 0 (.dsl (.pair)), .slot 1 (.dsl (.pair)), .slot 12 (.int .i64), .slot 13 (.int .i64)], [.const 4 (.bool (some false) false)], [], .ret, 0, fun k => u4 (slices_Equal_api_Pair_api_Pair_l0 F k), fun k => u4 (slices_Equal_api_Pair_api_Pair_l0S F (slices_Equal_api_Pair_api_Pair_l0 F k))⟩
theorem slices_Equal_api_Pair_api_Pair_l0k (F : Nat) : (slices_Equal_api_Pair_api_Pair_l0t F).ok Try.prog Try.f62 F :=
  okX callable (slices_Equal_api_Pair_api_Pair_all F) [] aN (fun _ => rfl) (fun _ _ => rfl) (eR rfl) fun k d => by kernel_rfl
def slices_Equal_api_Pair_api_Pair_told (F : Nat) : ToldF := ⟨62, 2, [.slot 0 (.dsl (.pair)), .slot 1 (.dsl (.pair))], [.ty (.bool)], u2 (slices_Equal_api_Pair_api_Pair F)⟩
theorem slices_Equal_api_Pair_api_Pair_ok (F : Nat) : (slices_Equal_api_Pair_api_Pair_told F).ok Try.prog :=
  okF callable (slices_Equal_api_Pair_api_Pair_all F) (fn := Try.f62) [(0, (slices_Equal_api_Pair_api_Pair_l0t F).ann F)] (by kernel_rfl) (aX (by kernel_rfl) (slices_Equal_api_Pair_api_Pair_l0k F) aN) fun d => by kernel_rfl
def layout_Same_tab (F : Nat) : List ToldF := [layout_Same_c1_told F, slices_EqualFunc_byte_byte_byte_byte_Equal_told F, slices_Equal_api_Pair_api_Pair_told F]
theorem layout_Same_all (F : Nat) : AllOk Try.prog (layout_Same_tab F) := ⟨layout_Same_c1_ok F, slices_EqualFunc_byte_byte_byte_byte_Equal_ok F, slices_Equal_api_Pair_api_Pair_ok F, trivial⟩
def layout_Same_told (F : Nat) : ToldF := ⟨24, 2, [.slot 0 (.agg [.int .i64, .int .i64, .int .i64, .int .i64, .int .i64, .int .i64, .dsl (.row .u8 1), .dsl (.pair)]), .slot 1 (.agg [.int .i64, .int .i64, .int .i64, .int .i64, .int .i64, .int .i64, .dsl (.row .u8 1), .dsl (.pair)])], [.ty (.bool)], u2 (layout_Same F)⟩
theorem layout_Same_ok (F : Nat) : (layout_Same_told F).ok Try.prog :=
  okF callable (layout_Same_all F) (fn := Try.f24) [] (by kernel_rfl) aN fun d => by kernel_rfl
def law17_awake_tab (F : Nat) : List ToldF := [layout_Sizes_told F, layout_Texels_told F, layout_Index_told F, layout_Block_told F, ref17_Wide_told F, layout_Header_told F, layout_Check_told F, layout_Same_told F]
theorem law17_awake_all (F : Nat) : AllOk Try.prog (law17_awake_tab F) := ⟨layout_Sizes_ok F, layout_Texels_ok F, layout_Index_ok F, layout_Block_ok F, ref17_Wide_ok F, layout_Header_ok F, layout_Check_ok F, layout_Same_ok F, trivial⟩
def law17_awake_told (F : Nat) : ToldF := ⟨14, 0, [], [.ty (.bool)], u0 (law17_awake F)⟩
theorem law17_awake_ok (F : Nat) : (law17_awake_told F).ok Try.prog :=
  okF callable (law17_awake_all F) (fn := Try.f14) [] (by kernel_rfl) aN fun d => by kernel_rfl
def ref17_Light_tab (F : Nat) : List ToldF := []
theorem ref17_Light_all (F : Nat) : AllOk Try.prog (ref17_Light_tab F) := trivial
def ref17_Light_l0t (F : Nat) : TL := ⟨69, [.segs [.hole (.int .i64), .hole (.int .i64), .hole (.int .i64), .hole (.int .i64), .hole (.int .i64), .hole (.int .i64), .hole (.dsl (.row .u8 1)), .hole (.dsl (.pair))] (.slot 1) true, .ptr 1 1 8, .slot 3 (.int .i64), .slot 4 (.int .i64)], [.segs [.hole (.int .i64), .hole (.int .i64), .hole (.int .i64), .hole (.int .i64), .hole (.int .i64), .hole (.int .i64), .hole (.dsl (.row .u8 1)), .hole (.dsl (.pair))] (.slot 1) true, .ptr 1 1 8, .slot 3 (.int .i64)], 0, fun k => u10 (ref17_Light_l0 F k), fun k => u10 (ref17_Light_l0S F (ref17_Light_l0 F k))⟩
theorem ref17_Light_l0k (F : Nat) : (ref17_Light_l0t F).ok Try.prog Try.f15 F :=
  okL callable (ref17_Light_all F) [] aN (fun _ => rfl) (fun _ _ => rfl) fun k d => by kernel_rfl
def ref17_Light_l2t (F : Nat) : TL := ⟨69, [.segs [.hole (.int .i64), .hole (.int .i64), .hole (.int .i64), .hole (.int .i64), .hole (.int .i64), .hole (.int .i64), .hole (.dsl (.row .u8 1)), .hole (.dsl (.pair))] (.slot 1) true, .ptr 1 1 8, .slot 3 (.int .i64), .slot 5 (.int .i64)], [.segs [.hole (.int .i64), .hole (.int .i64), .hole (.int .i64), .hole (.int .i64), .hole (.int .i64), .hole (.int .i64), .hole (.dsl (.row .u8 1)), .hole (.dsl (.pair))] (.slot 1) true, .ptr 1 1 8, .slot 3 (.int .i64)], 2, fun k => u10 (ref17_Light_l2 F k), fun k => u10 (ref17_Light_l2S F (ref17_Light_l2 F k))⟩
theorem ref17_Light_l2k (F : Nat) : (ref17_Light_l2t F).ok Try.prog Try.f15 F :=
  okL callable (ref17_Light_all F) [] aN (fun _ => rfl) (fun _ _ => rfl) fun k d => by kernel_rfl
def ref17_Light_told (F : Nat) : ToldF := ⟨15, 1, [.slot 0 (.agg [.int .i64, .int .i64, .int .i64, .int .i64, .int .i64, .int .i64, .dsl (.row .u8 1), .dsl (.pair)])], [.ty (.bool)], u1 (ref17_Light F)⟩
theorem ref17_Light_ok (F : Nat) : (ref17_Light_told F).ok Try.prog :=
  okF callable (ref17_Light_all F) (fn := Try.f15) [(0, (ref17_Light_l0t F).ann F), (2, (ref17_Light_l2t F).ann F)] (by kernel_rfl) (aL (by kernel_rfl) (ref17_Light_l0k F) (aL (by kernel_rfl) (ref17_Light_l2k F) aN)) fun d => by kernel_rfl
def law17_fair_tab (F : Nat) : List ToldF := []
theorem law17_fair_all (F : Nat) : AllOk Try.prog (law17_fair_tab F) := trivial
def law17_fair_told (F : Nat) : ToldF := ⟨16, 1, [.slot 0 (.agg [.int .i64, .int .i64, .int .i64, .int .i64, .int .i64, .int .i64, .dsl (.row .u8 1), .dsl (.pair)])], [.ty (.bool)], u1 (law17_fair F)⟩
theorem law17_fair_ok (F : Nat) : (law17_fair_told F).ok Try.prog :=
  okF callable (law17_fair_all F) (fn := Try.f16) [] (by kernel_rfl) aN fun d => by kernel_rfl
def ref01_Same_tab (F : Nat) : List ToldF := []
theorem ref01_Same_all (F : Nat) : AllOk Try.prog (ref01_Same_tab F) := trivial
def ref01_Same_l0t (F : Nat) : TX := ⟨26, [.row .u8 1 (.slot 0) false, .row .u8 1 (.slot 1) false, .slot 5 (.int .i64)], [.const 4 (.bool (some false) false)], [], .ret, 0, fun k => u3 (ref01_Same_l0 F k), fun k => u3 (ref01_Same_l0S F (ref01_Same_l0 F k))⟩
theorem ref01_Same_l0k (F : Nat) : (ref01_Same_l0t F).ok Try.prog Try.f31 F :=
  okX callable (ref01_Same_all F) [] aN (fun _ => rfl) (fun _ _ => rfl) (eR rfl) fun k d => by kernel_rfl
def ref01_Same_told (F : Nat) : ToldF := ⟨31, 2, [.row .u8 1 (.slot 0) false, .row .u8 1 (.slot 1) false], [.ty (.bool)], u2 (ref01_Same F)⟩
theorem ref01_Same_ok (F : Nat) : (ref01_Same_told F).ok Try.prog :=
  okF callable (ref01_Same_all F) (fn := Try.f31) [(0, (ref01_Same_l0t F).ann F)] (by kernel_rfl) (aX (by kernel_rfl) (ref01_Same_l0k F) aN) fun d => by kernel_rfl
def law17_LayoutWhole_tab (F : Nat) : List ToldF := [format_Of_told F, mip_Side_told F, image_Tiles_told F, layout_Index_told F, layout_Block_told F, ref17_Wide_told F, layout_Check_told F, law17_awake_told F, ref17_Light_told F, law17_fair_told F, ref01_Same_told F]
theorem law17_LayoutWhole_all (F : Nat) : AllOk Try.prog (law17_LayoutWhole_tab F) := ⟨format_Of_ok F, mip_Side_ok F, image_Tiles_ok F, layout_Index_ok F, layout_Block_ok F, ref17_Wide_ok F, layout_Check_ok F, law17_awake_ok F, ref17_Light_ok F, law17_fair_ok F, ref01_Same_ok F, trivial⟩
def law17_LayoutWhole_l6t (F : Nat) : TX := ⟨137, [.segs [.hole (.int .i64), .hole (.int .i64), .hole (.int .i64), .hole (.int .i64), .hole (.int .i64), .hole (.int .i64), .hole (.dsl (.row .u8 1)), .hole (.dsl (.pair))] (.slot 1) true, .ptr 1 1 8, .slot 3 (.bool), .segs [.hole (.int .i64), .hole (.int .i64), .hole (.bool)] (.slot 5) true, .ptr 5 2 3, .slot 7 (.int .i64), .slot 8 (.int .i64), .slot 9 (.int .i64), .slot 10 (.int .i64), .row .u8 1 (.slot 11) true, .slot 12 (.int .i64), .slot 13 (.int .i64), .slot 14 (.int .i64), .slot 67 (.int .i64), .slot 69 (.dsl (.row .u8 1)), .slot 70 (.int .i64), .slot 71 (.bool)], [.const 2 (.bool (some false) false)], [.segs [.hole (.int .i64), .hole (.int .i64), .hole (.int .i64), .hole (.int .i64), .hole (.int .i64), .hole (.int .i64), .hole (.dsl (.row .u8 1)), .hole (.dsl (.pair))] (.slot 1) true, .ptr 1 1 8, .slot 3 (.bool), .segs [.hole (.int .i64), .hole (.int .i64), .hole (.bool)] (.slot 5) true, .ptr 5 2 3, .slot 7 (.int .i64), .slot 8 (.int .i64), .slot 9 (.int .i64), .slot 10 (.int .i64), .row .u8 1 (.slot 11) true, .slot 67 (.int .i64), .slot 69 (.dsl (.row .u8 1)), .slot 70 (.int .i64), .slot 71 (.bool)], .ret, 6, fun k => u24 (law17_LayoutWhole_l6 F k), fun k => u24 (law17_LayoutWhole_l6S F (law17_LayoutWhole_l6 F k))⟩
theorem law17_LayoutWhole_l6k (F : Nat) : (law17_LayoutWhole_l6t F).ok Try.prog Try.f4 F :=
  okX callable (law17_LayoutWhole_all F) [] aN (fun _ => rfl) (fun _ _ => rfl) (eR rfl) fun k d => by kernel_rfl
def law17_LayoutWhole_l4t (F : Nat) : TX := ⟨137, [.segs [.hole (.int .i64), .hole (.int .i64), .hole (.int .i64), .hole (.int .i64), .hole (.int .i64), .hole (.int .i64), .hole (.dsl (.row .u8 1)), .hole (.dsl (.pair))] (.slot 1) true, .ptr 1 1 8, .slot 3 (.bool), .segs [.hole (.int .i64), .hole (.int .i64), .hole (.bool)] (.slot 5) true, .ptr 5 2 3, .slot 7 (.int .i64), .slot 8 (.int .i64), .slot 9 (.int .i64), .slot 10 (.int .i64)], [.const 2 (.bool (some false) false)], [.segs [.hole (.int .i64), .hole (.int .i64), .hole (.int .i64), .hole (.int .i64), .hole (.int .i64), .hole (.int .i64), .hole (.dsl (.row .u8 1)), .hole (.dsl (.pair))] (.slot 1) true, .ptr 1 1 8, .slot 3 (.bool), .segs [.hole (.int .i64), .hole (.int .i64), .hole (.bool)] (.slot 5) true, .ptr 5 2 3, .slot 7 (.int .i64), .slot 8 (.int .i64), .slot 9 (.int .i64)], .ret, 4, fun k => u16 (law17_LayoutWhole_l4 F k), fun k => u16 (law17_LayoutWhole_l4S F (law17_LayoutWhole_l4 F k))⟩
theorem law17_LayoutWhole_l4k (F : Nat) : (law17_LayoutWhole_l4t F).ok Try.prog Try.f4 F :=
  okX callable (law17_LayoutWhole_all F) [(6, (law17_LayoutWhole_l6t F).ann F)] (aX (by kernel_rfl) (law17_LayoutWhole_l6k F) aN) (fun _ => rfl) (fun _ _ => rfl) (eR rfl) fun k d => by kernel_rfl
def law17_LayoutWhole_l2t (F : Nat) : TX := ⟨137, [.segs [.hole (.int .i64), .hole (.int .i64), .hole (.int .i64), .hole (.int .i64), .hole (.int .i64), .hole (.int .i64), .hole (.dsl (.row .u8 1)), .hole (.dsl (.pair))] (.slot 1) true, .ptr 1 1 8, .slot 3 (.bool), .segs [.hole (.int .i64), .hole (.int .i64), .hole (.bool)] (.slot 5) true, .ptr 5 2 3, .slot 7 (.int .i64), .slot 8 (.int .i64), .slot 9 (.int .i64)], [.const 2 (.bool (some false) false)], [.segs [.hole (.int .i64), .hole (.int .i64), .hole (.int .i64), .hole (.int .i64), .hole (.int .i64), .hole (.int .i64), .hole (.dsl (.row .u8 1)), .hole (.dsl (.pair))] (.slot 1) true, .ptr 1 1 8, .slot 3 (.bool), .segs [.hole (.int .i64), .hole (.int .i64), .hole (.bool)] (.slot 5) true, .ptr 5 2 3, .slot 7 (.int .i64), .slot 8 (.int .i64)], .ret, 2, fun k => u15 (law17_LayoutWhole_l2 F k), fun k => u15 (law17_LayoutWhole_l2S F (law17_LayoutWhole_l2 F k))⟩
theorem law17_LayoutWhole_l2k (F : Nat) : (law17_LayoutWhole_l2t F).ok Try.prog Try.f4 F :=
  okX callable (law17_LayoutWhole_all F) [(6, (law17_LayoutWhole_l6t F).ann F), (4, (law17_LayoutWhole_l4t F).ann F)] (aX (by kernel_rfl) (law17_LayoutWhole_l6k F) (aX (by kernel_rfl) (law17_LayoutWhole_l4k F) aN)) (fun _ => rfl) (fun _ _ => rfl) (eR rfl) fun k d => by kernel_rfl
def law17_LayoutWhole_l0t (F : Nat) : TX := ⟨137, [.segs [.hole (.int .i64), .hole (.int .i64), .hole (.int .i64), .hole (.int .i64), .hole (.int .i64), .hole (.int .i64), .hole (.dsl (.row .u8 1)), .hole (.dsl (.pair))] (.slot 1) true, .ptr 1 1 8, .slot 3 (.bool), .segs [.hole (.int .i64), .hole (.int .i64), .hole (.bool)] (.slot 5) true, .ptr 5 2 3, .slot 7 (.int .i64), .slot 8 (.int .i64)], [.const 2 (.bool (some false) false)], [.segs [.hole (.int .i64), .hole (.int .i64), .hole (.int .i64), .hole (.int .i64), .hole (.int .i64), .hole (.int .i64), .hole (.dsl (.row .u8 1)), .hole (.dsl (.pair))] (.slot 1) true, .ptr 1 1 8, .slot 3 (.bool), .slot 7 (.int .i64)], .ret, 0, fun k => u14 (law17_LayoutWhole_l0 F k), fun k => u14 (law17_LayoutWhole_l0S F (law17_LayoutWhole_l0 F k))⟩
theorem law17_LayoutWhole_l0k (F : Nat) : (law17_LayoutWhole_l0t F).ok Try.prog Try.f4 F :=
  okX callable (law17_LayoutWhole_all F) [(6, (law17_LayoutWhole_l6t F).ann F), (4, (law17_LayoutWhole_l4t F).ann F), (2, (law17_LayoutWhole_l2t F).ann F)] (aX (by kernel_rfl) (law17_LayoutWhole_l6k F) (aX (by kernel_rfl) (law17_LayoutWhole_l4k F) (aX (by kernel_rfl) (law17_LayoutWhole_l2k F) aN))) (fun _ => rfl) (fun _ _ => rfl) (eR rfl) fun k d => by kernel_rfl
def law17_LayoutWhole_told (F : Nat) : ToldF := ⟨4, 1, [.slot 0 (.agg [.int .i64, .int .i64, .int .i64, .int .i64, .int .i64, .int .i64, .dsl (.row .u8 1), .dsl (.pair)])], [.ty (.bool)], u1 (law17_LayoutWhole F)⟩
theorem law17_LayoutWhole_ok (F : Nat) : (law17_LayoutWhole_told F).ok Try.prog :=
  okF callable (law17_LayoutWhole_all F) (fn := Try.f4) [(6, (law17_LayoutWhole_l6t F).ann F), (4, (law17_LayoutWhole_l4t F).ann F), (2, (law17_LayoutWhole_l2t F).ann F), (0, (law17_LayoutWhole_l0t F).ann F)] (by kernel_rfl) (aX (by kernel_rfl) (law17_LayoutWhole_l6k F) (aX (by kernel_rfl) (law17_LayoutWhole_l4k F) (aX (by kernel_rfl) (law17_LayoutWhole_l2k F) (aX (by kernel_rfl) (law17_LayoutWhole_l0k F) aN)))) fun d => by kernel_rfl
end Go.Proofs.Ytcjfigcbloploaa
set_option linter.unusedSimpArgs false
set_option linter.unusedVariables false
namespace Go.AE.Gn
open Go Go.AE
theorem w64 {x : Int} (h1 : -9223372036854775808 ≤ x) (h2 : x ≤ 9223372036854775807) : IntKind.wrap .i64 x = x := wrap_id (has_iff.2 ⟨h1, h2⟩)
theorem beqF {a b : Int} (h : a ≠ b) : (a == b) = false := by simpa using h
theorem bneT {a b : Int} (h : a ≠ b) : (a != b) = true := by simpa using h
def Bytes (b : List Int) : Prop := ∀ x ∈ b, 0 ≤ x ∧ x ≤ 255
theorem Bytes.getD {b : List Int} (h : Bytes b) (i : Nat) : 0 ≤ b.getD i 0 ∧ b.getD i 0 ≤ 255 := by
  rw [List.getD_eq_getElem?_getD]
  by_cases hi : i < b.length
  · rw [List.getElem?_eq_getElem hi]
    exact h _ (List.getElem_mem hi)
  · rw [List.getElem?_eq_none (by omega)]
    simp
theorem Bytes.set {b : List Int} (h : Bytes b) {i : Nat} {v : Int} (hv : 0 ≤ v ∧ v ≤ 255) : Bytes (b.set i v) := by
  intro x hx
  rcases List.mem_or_eq_of_mem_set hx with hx | rfl
  · exact h x hx
  · exact hv
def sumLo (f : Nat → Int) : Nat → Int
  | 0 => 0
  | n + 1 => sumLo f n + f n * 2 ^ n
def sumHi (f : Nat → Int) : Nat → Int
  | 0 => 0
  | n + 1 => 2 * sumHi f n + f n
theorem tdiv_nonneg {x y : Int} (h : 0 ≤ x) : x.tdiv y = x / y := Int.tdiv_eq_ediv_of_nonneg h
theorem tmod_nonneg {x y : Int} (h : 0 ≤ x) : x.tmod y = x % y := Int.tmod_eq_emod_of_nonneg h
end Go.AE.Gn
set_option linter.unusedVariables false
set_option linter.unusedSimpArgs false
namespace Go.AE.Gn
open Go Go.AE
def sd (w i : Nat) : Nat := max (w / 2 ^ i) 1
theorem sd_zero {w : Nat} (h : 1 ≤ w) : sd w 0 = w := by
  simp only [sd, Nat.pow_zero, Nat.div_one]
  omega
theorem sd_half (w i : Nat) : sd (max (w / 2) 1) i = sd w (i + 1) := by
  simp only [sd]
  rw [Nat.pow_succ, Nat.mul_comm, ← Nat.div_div_eq_div_mul]
  rcases Nat.lt_or_ge (w / 2) 1 with h | h
  · have h0 : w / 2 = 0 := by omega
    rw [h0, Nat.zero_div]
    have : (max 0 1) / 2 ^ i ≤ 1 := Nat.div_le_self _ _
    omega
  · rw [Nat.max_eq_left h]
theorem sd_le (w i : Nat) (h : 1 ≤ w) : sd w i ≤ w := by
  have := Nat.div_le_self w (2 ^ i)
  simp only [sd]
  omega
theorem sd_pos (w i : Nat) : 1 ≤ sd w i := by simp only [sd]; omega
theorem half_is (F : Nat) {w : Nat} (h : w ≤ 4611686018427387904) : mip_half F (w : Int) = some (((max (w / 2) 1 : Nat) : Int), ()) := by
  unfold mip_half
  have e : Int.tdiv (w : Int) 2 = ((w / 2 : Nat) : Int) := rfl
  rw [e, wrap_id (by rw [has_iff]; simp only [loB, hiB]; omega)]
  congr 2
  omega
theorem sizes_is (F : Nat) : ∀ (n k w h : Nat), 1 ≤ w → 1 ≤ h → w < 2 ^ (n + 1) → h < 2 ^ (n + 1) → (2 ^ n ≤ w ∨ 2 ^ n ≤ h) → n < k → n ≤ 61 →
    sizesL (mip_half F) k (w : Int) (h : Int) = some ((List.range (n + 1)).map fun i => (((sd w i : Nat) : Int), ((sd h i : Nat) : Int)))
  | n, 0, w, h, _, _, _, _, _, hk, _ => by omega
  | 0, k + 1, w, h, w1, h1, w2, h2, _, _, _ => by
    obtain rfl : w = 1 := by omega
    obtain rfl : h = 1 := by omega
    rfl
  | n + 1, k + 1, w, h, w1, h1, w2, h2, hm, hk, hn => by
    have big : (2 : Nat) ^ (n + 2) ≤ 2 ^ 62 := Nat.pow_le_pow_right (by omega) (by omega)
    have p2 : (2 : Nat) ^ (n + 1) = 2 ^ n * 2 := Nat.pow_succ 2 n
    have p3 : (2 : Nat) ^ (n + 2) = 2 ^ (n + 1) * 2 := Nat.pow_succ 2 (n + 1)
    have p0 : 1 ≤ (2 : Nat) ^ n := Nat.one_le_two_pow
    have ih := sizes_is F n k (max (w / 2) 1) (max (h / 2) 1) (by omega) (by omega) (by omega) (by omega) (by omega) (by omega) (by omega)
    have hw := half_is F (w := w) (by omega)
    have hh := half_is F (w := h) (by omega)
    have key : ((mip_half F (w : Int)).bind fun a => (mip_half F (h : Int)).bind fun b => sizesL (mip_half F) k a.1 b.1) = some ((List.range (n + 1)).map fun i => (((sd w (i + 1) : Nat) : Int), ((sd h (i + 1) : Nat) : Int))) := by
      rw [hw, Option.bind_some, hh, Option.bind_some, ih]
      simp only [sd_half]
    unfold sizesL
    have a1 : ((1 : Int) ≤ (w : Int)) := by omega
    have a2 : ((1 : Int) ≤ (h : Int)) := by omega
    rw [decide_eq_true a1, decide_eq_true a2, cond_true, cond_true]
    have fin : cons1 ((w : Int), (h : Int)) (some ((List.range (n + 1)).map fun i => (((sd w (i + 1) : Nat) : Int), ((sd h (i + 1) : Nat) : Int)))) = some ((List.range (n + 1 + 1)).map fun i => (((sd w i : Nat) : Int), ((sd h i : Nat) : Int))) := by
      rw [List.range_succ_eq_map (n := n + 1), List.map_cons, List.map_map, sd_zero w1, sd_zero h1]
      rfl
    rw [key]
    rcases Nat.lt_or_ge 1 w with c | c
    · rw [decide_eq_true (show (1 : Int) < (w : Int) by omega), cond_true, fin]
    · rw [decide_eq_false (show ¬ (1 : Int) < (w : Int) by omega), cond_false, decide_eq_true (show (1 : Int) < (h : Int) by omega), cond_true, fin]
theorem count_run (F : Nat) : ∀ (l : List (Int × Int)) (c : Nat), c + l.length ≤ 4611686018427387904 → runL (fun x => u1 (mip_Levels_r F x)) l ((c : Int), ()) = some (.inl (((c + l.length : Nat) : Int), ()))
  | [], c, _ => rfl
  | x :: r, c, h => by
    simp only [List.length_cons] at h
    have e : u1 (mip_Levels_r F x) ((c : Int), ()) = some (.inl (((c + 1 : Nat) : Int), ())) := by
      show mip_Levels_r F x (c : Int) = _
      unfold mip_Levels_r
      rw [wrap_id (by rw [has_iff]; simp only [loB, hiB]; omega)]
      rfl
    unfold runL
    rw [e]
    show runL _ r _ = _
    rw [count_run F r (c + 1) (by omega), List.length_cons]
    congr 3
    omega
theorem levels_is {F n w h : Nat} (w1 : 1 ≤ w) (h1 : 1 ≤ h) (w2 : w < 2 ^ (n + 1)) (h2 : h < 2 ^ (n + 1)) (hm : 2 ^ n ≤ w ∨ 2 ^ n ≤ h) (hF : n < F) (hn : n ≤ 61) :
    mip_Levels F (w : Int) (h : Int) = some (((n + 1 : Nat) : Int), ()) := by
  unfold mip_Levels mip_sizes_c1
  rw [sizes_is F n F w h w1 h1 w2 h2 hm hF hn, Option.bind_some]
  have := count_run F ((List.range (n + 1)).map fun i => (((sd w i : Nat) : Int), ((sd h i : Nat) : Int))) 0 (by simp; omega)
  rw [show ((0 : Nat) : Int) = 0 from rfl] at this
  rw [this, Option.bind_some]
  simp
theorem side_run (F : Nat) (w i : Nat) : ∀ (m j : Nat) (last : Int), j ≤ i → i ≤ 4611686018427387904 →
    runL (fun x => u2 (mip_Side_r F x)) ((List.range' j m).map fun t => (((sd w t : Nat) : Int), ((sd 1 t : Nat) : Int))) (((i - j : Nat) : Int), (last, ())) =
      if i < j + m then some (.inr (((sd w i : Nat) : Int), ())) else some (.inl (((i - j - m : Nat) : Int), ((if m = 0 then last else ((sd w (j + m - 1) : Nat) : Int)), ())))
  | 0, j, last, hj, hi => by
    rw [if_neg (by omega)]
    rfl
  | m + 1, j, last, hj, hi => by
    rw [List.range'_succ, List.map_cons]
    unfold runL
    by_cases h0 : i = j
    · subst h0
      have e : u2 (mip_Side_r F (((sd w i : Nat) : Int), ((sd 1 i : Nat) : Int))) (((i - i : Nat) : Int), (last, ())) = some (.inr (((sd w i : Nat) : Int), ())) := by
        show mip_Side_r F _ ((i - i : Nat) : Int) last = _
        unfold mip_Side_r
        rw [Nat.sub_self]
        rfl
      rw [e, if_pos (by omega)]
    · have e : u2 (mip_Side_r F (((sd w j : Nat) : Int), ((sd 1 j : Nat) : Int))) (((i - j : Nat) : Int), (last, ())) = some (.inl (((i - (j + 1) : Nat) : Int), (((sd w j : Nat) : Int), ()))) := by
        show mip_Side_r F _ ((i - j : Nat) : Int) last = _
        unfold mip_Side_r
        have h1 : (((i - j : Nat) : Int) == 0) = false := by rw [beq_eq_false_iff_ne]; omega
        rw [h1, cond_false, wrap_id (by rw [has_iff]; simp only [loB, hiB]; omega)]
        congr 3
        omega
      rw [e]
      show runL _ _ _ = _
      rw [side_run F w i m (j + 1) _ (by omega) hi]
      by_cases h2 : i < j + (m + 1)
      · rw [if_pos (by omega), if_pos h2]
      · rw [if_neg (by omega), if_neg h2]
        rw [if_neg (show ¬ m + 1 = 0 by omega), show i - (j + 1) - m = i - j - (m + 1) by omega, show j + (m + 1) - 1 = j + 1 + m - 1 by omega]
        by_cases h3 : m = 0
        · subst h3; simp
        · rw [if_neg h3]
theorem log_lt {w : Nat} (h : 1 ≤ w) : 2 ^ Nat.log2 w ≤ w ∧ w < 2 ^ (Nat.log2 w + 1) := ⟨Nat.log2_self_le (by omega), Nat.lt_log2_self⟩
theorem log_le {w n : Nat} (h : 1 ≤ w) (hw : w < 2 ^ (n + 1)) : Nat.log2 w ≤ n := by
  rcases Nat.lt_or_ge n (Nat.log2 w) with c | c
  · have := (log_lt h).1
    have := Nat.pow_le_pow_right (n := 2) (by omega) c
    omega
  · exact c
theorem side_is {F w i : Nat} (w1 : 1 ≤ w) (wb : w < 4611686018427387904) (hi : i ≤ 4611686018427387904) (hF : 62 ≤ F) : mip_Side F (w : Int) (i : Int) = some (((sd w i : Nat) : Int), ()) := by
  unfold mip_Side mip_sizes_c1
  rw [decide_eq_false (show ¬ ((i : Int) < 0) by omega), cond_false]
  obtain ⟨l1, l2⟩ := log_lt w1
  have ln : Nat.log2 w ≤ 61 := log_le w1 (by omega)
  have hs := sizes_is F (Nat.log2 w) F w 1 w1 (by omega) l2 (by have := Nat.one_le_two_pow (n := Nat.log2 w); rw [Nat.pow_succ]; omega) (.inl l1) (by omega) ln
  rw [show ((1 : Nat) : Int) = 1 from rfl] at hs
  rw [hs, Option.bind_some]
  have hr := side_run F w i (Nat.log2 w + 1) 0 0 (by omega) hi
  rw [← List.range_eq_range', Nat.sub_zero] at hr
  rw [hr]
  by_cases h : i < 0 + (Nat.log2 w + 1)
  · rw [if_pos h]
    rfl
  · rw [if_neg h, if_neg (by omega)]
    show some (((sd w (0 + (Nat.log2 w + 1) - 1) : Nat) : Int), ()) = _
    have e1 : sd w (0 + (Nat.log2 w + 1) - 1) = 1 := by
      rw [show 0 + (Nat.log2 w + 1) - 1 = Nat.log2 w by omega]
      simp only [sd]
      have : w / 2 ^ Nat.log2 w < 2 := (Nat.div_lt_iff_lt_mul (Nat.two_pow_pos _)).2 (by rw [Nat.mul_comm, ← Nat.pow_succ]; exact l2)
      omega
    have e2 : sd w i = 1 := by
      simp only [sd]
      have : w / 2 ^ i = 0 := Nat.div_eq_of_lt (Nat.lt_of_lt_of_le l2 (Nat.pow_le_pow_right (by omega) (by omega)))
      omega
    rw [e1, e2]
theorem rside_run (F : Nat) : ∀ (k w i j : Nat), 1 ≤ w → w ≤ 4611686018427387904 → j ≤ i → i ≤ 4611686018427387904 → w < 2 ^ k → ref05_Side_l0 F (k + 1) (w : Int) (i : Int) (j : Int) = some (((sd w (i - j) : Nat) : Int), ())
  | 0, w, i, j, w1, wb, hj, hi, hw => by omega
  | k + 1, w, i, j, w1, wb, hj, hi, hw => by
    unfold ref05_Side_l0 ref05_Side_l0S
    by_cases h : j < i
    · rw [decide_eq_true (show (j : Int) < (i : Int) by omega), cond_true]
      by_cases h2 : 1 < w
      · rw [decide_eq_true (show (1 : Int) < (w : Int) by omega), cond_true]
        have e1 : IntKind.wrap .i64 (Int.tdiv (w : Int) 2) = ((w / 2 : Nat) : Int) := by
          rw [show Int.tdiv (w : Int) 2 = ((w / 2 : Nat) : Int) from rfl, wrap_id (by rw [has_iff]; simp only [loB, hiB]; omega)]
        have e2 : IntKind.wrap .i64 ((j : Int) + 1) = ((j + 1 : Nat) : Int) := by
          rw [wrap_id (by rw [has_iff]; simp only [loB, hiB]; omega)]
          omega
        rw [e1, e2, rside_run F k (w / 2) i (j + 1) (by omega) (by omega) (by omega) hi (by rw [Nat.pow_succ] at hw; omega)]
        have := sd_half w (i - (j + 1))
        rw [Nat.max_eq_left (by omega), show i - (j + 1) + 1 = i - j by omega] at this
        rw [this]
      · rw [decide_eq_false (show ¬ (1 : Int) < (w : Int) by omega), cond_false]
        obtain rfl : w = 1 := by omega
        have : sd 1 (i - j) = 1 := by
          have := sd_le 1 (i - j) (by omega)
          have := sd_pos 1 (i - j)
          omega
        rw [this]
    · rw [decide_eq_false (show ¬ (j : Int) < (i : Int) by omega), cond_false, show i - j = 0 by omega, sd_zero w1]
theorem rside_is {F w i : Nat} (w1 : 1 ≤ w) (wb : w < 4611686018427387904) (hi : i ≤ 4611686018427387904) (hF : 64 ≤ F) : ref05_Side F (w : Int) (i : Int) = some (((sd w i : Nat) : Int), ()) := by
  unfold ref05_Side
  rw [decide_eq_false (show ¬ ((w : Int) < 1) by omega), cond_false, decide_eq_false (show ¬ ((i : Int) < 0) by omega), cond_false]
  obtain ⟨k, rfl⟩ : ∃ k, F = k + 1 := ⟨F - 1, by omega⟩
  have hk : (2 : Nat) ^ 62 ≤ 2 ^ k := Nat.pow_le_pow_right (by omega) (by omega)
  have := rside_run (k + 1) k w i 0 w1 (by omega) (by omega) hi (by omega)
  rw [show ((0 : Nat) : Int) = 0 from rfl, Nat.sub_zero] at this
  rw [this]
  rfl
theorem half_wrap {w : Nat} (h : w ≤ 4611686018427387904) : max (IntKind.wrap .i64 (Int.tdiv (w : Int) 2)) 1 = ((max (w / 2) 1 : Nat) : Int) := by
  rw [show Int.tdiv (w : Int) 2 = ((w / 2 : Nat) : Int) from rfl, wrap_id (by rw [has_iff]; simp only [loB, hiB]; omega)]
  omega
theorem rlevels_run (F : Nat) : ∀ (n k w h c : Nat), 1 ≤ w → 1 ≤ h → w < 2 ^ (n + 1) → h < 2 ^ (n + 1) → (2 ^ n ≤ w ∨ 2 ^ n ≤ h) → n < k → n ≤ 61 → c + n ≤ 1000 →
    ref05_Levels_l0 F k (w : Int) (h : Int) (c : Int) = some (((c + n : Nat) : Int), ())
  | n, 0, w, h, c, _, _, _, _, _, hk, _, _ => by omega
  | 0, k + 1, w, h, c, w1, h1, w2, h2, _, _, _, _ => by
    obtain rfl : w = 1 := by omega
    obtain rfl : h = 1 := by omega
    rfl
  | n + 1, k + 1, w, h, c, w1, h1, w2, h2, hm, hk, hn, hc => by
    have big : (2 : Nat) ^ (n + 2) ≤ 2 ^ 62 := Nat.pow_le_pow_right (by omega) (by omega)
    have p2 : (2 : Nat) ^ (n + 1) = 2 ^ n * 2 := Nat.pow_succ 2 n
    have p3 : (2 : Nat) ^ (n + 2) = 2 ^ (n + 1) * 2 := Nat.pow_succ 2 (n + 1)
    have p0 : 1 ≤ (2 : Nat) ^ n := Nat.one_le_two_pow
    have ih := rlevels_run F n k (max (w / 2) 1) (max (h / 2) 1) (c + 1) (by omega) (by omega) (by omega) (by omega) (by omega) (by omega) (by omega) (by omega)
    have e : IntKind.wrap .i64 ((c : Int) + 1) = ((c + 1 : Nat) : Int) := by
      rw [wrap_id (by rw [has_iff]; simp only [loB, hiB]; omega)]
      omega
    unfold ref05_Levels_l0 ref05_Levels_l0S
    rw [half_wrap (show w ≤ _ by omega), half_wrap (show h ≤ _ by omega), e, ih]
    have fin : (some (((c + 1 + n : Nat) : Int), ()) : Option (Int × Unit)) = some (((c + (n + 1) : Nat) : Int), ()) := by
      rw [show c + 1 + n = c + (n + 1) by omega]
    rw [fin]
    rcases Nat.lt_or_ge 1 w with q | q
    · rw [decide_eq_true (show (1 : Int) < (w : Int) by omega), cond_true]
    · rw [decide_eq_false (show ¬ (1 : Int) < (w : Int) by omega), cond_false, decide_eq_true (show (1 : Int) < (h : Int) by omega), cond_true]
theorem rlevels_is {F n w h : Nat} (w1 : 1 ≤ w) (h1 : 1 ≤ h) (w2 : w < 2 ^ (n + 1)) (h2 : h < 2 ^ (n + 1)) (hm : 2 ^ n ≤ w ∨ 2 ^ n ≤ h) (hF : n < F) (hn : n ≤ 61) :
    ref05_Levels F (w : Int) (h : Int) = some (((n + 1 : Nat) : Int), ()) := by
  unfold ref05_Levels
  rw [decide_eq_false (show ¬ ((w : Int) < 1) by omega), cond_false, decide_eq_false (show ¬ ((h : Int) < 1) by omega), cond_false]
  have := rlevels_run F n F w h 1 w1 h1 w2 h2 hm hF hn (by omega)
  rw [show ((1 : Nat) : Int) = 1 from rfl] at this
  rw [this, Option.bind_some]
  show some (((1 + n : Nat) : Int), ()) = _
  rw [Nat.add_comm]
def lv17 (w h : Nat) : Nat := Nat.log2 (max w h)
theorem lv17_spec {w h : Nat} (w1 : 1 ≤ w) (h1 : 1 ≤ h) : w < 2 ^ (lv17 w h + 1) ∧ h < 2 ^ (lv17 w h + 1) ∧ (2 ^ lv17 w h ≤ w ∨ 2 ^ lv17 w h ≤ h) := by
  obtain ⟨a, b⟩ := log_lt (w := max w h) (by omega)
  unfold lv17
  omega
theorem lv17_le {w h : Nat} (w1 : 1 ≤ w) (h1 : 1 ≤ h) (wb : w < 4611686018427387904) (hb : h < 4611686018427387904) : lv17 w h ≤ 61 := log_le (w := max w h) (by omega) (by omega)
theorem Levels17 {F w h : Nat} (w1 : 1 ≤ w) (h1 : 1 ≤ h) (wb : w < 4611686018427387904) (hb : h < 4611686018427387904) (hF : 62 ≤ F) :
    mip_Levels F (w : Int) (h : Int) = some (((lv17 w h + 1 : Nat) : Int), ()) ∧ ref05_Levels F (w : Int) (h : Int) = some (((lv17 w h + 1 : Nat) : Int), ()) := by
  obtain ⟨a, b, c⟩ := lv17_spec w1 h1
  have d := lv17_le w1 h1 wb hb
  exact ⟨levels_is w1 h1 a b c (by omega) d, rlevels_is w1 h1 a b c (by omega) d⟩
end Go.AE.Gn
set_option linter.unusedSimpArgs false
set_option linter.unusedVariables false
namespace Go.AE.Gn
open Go Go.AE
def bitL (x : Int) (j : Nat) : Int := x / 2 ^ j % 2
def lowBit (b : List Int) (i : Nat) : Int := bitL (b.getD (i / 8) 0) (i % 8)
def highBit (b : List Int) (i : Nat) : Int := bitL (b.getD (i / 8) 0) (7 - i % 8)
def chk (len : Nat) (at_ n : Int) : Int := if at_ < 0 ∨ n < 0 ∨ 64 < n then 1 else if at_ + n ≤ 8 * (len : Int) then 0 else 2
def setB (x : Int) (k : Nat) (v : Int) : Int := x - bitL x k * 2 ^ k + v * 2 ^ k
def sets (pos : Nat → Nat × Nat) (n : Int) (b : List Int) : Nat → List Int
  | 0 => b
  | i + 1 => (sets pos n b i).set (pos i).1 (setB ((sets pos n b i).getD (pos i).1 0) (pos i).2 (n / 2 ^ i % 2))
def posHi (A N i : Nat) : Nat × Nat := ((A + (N - 1 - i)) / 8, 7 - (A + (N - 1 - i)) % 8)
end Go.AE.Gn
set_option linter.unusedSimpArgs false
set_option linter.unusedVariables false
namespace Go.AE.Gn
open Go Go.AE
def hv (b : List Int) (a n : Nat) : Int := sumHi (fun j => highBit b (a + j)) n
def lv (b : List Int) (a n : Nat) : Int := sumLo (fun j => lowBit b (a + j)) n
def hset (b : List Int) (a n : Nat) (v : Int) : List Int := sets (posHi a n) v b n
end Go.AE.Gn
set_option linter.unusedSimpArgs false
set_option linter.unusedVariables false
namespace Go.AE.Gn
open Go Go.AE
def wideS (b v : Nat) : Int := (List.range 8).foldl (fun o i => 2 * o + (((v / 2 ^ (b - 1 - i % b) % 2 : Nat)) : Int)) 0
def wideV (b : Nat) (x : Int) : Int := wideS b (x % 2 ^ b).toNat
def mixV (a b k o add : Int) : Int := (a * (o - k) + b * k + add) / o
end Go.AE.Gn
set_option linter.unusedSimpArgs false
set_option linter.unusedVariables false
namespace Go.AE.Gn
open Go Go.AE
def tab (N : Nat) (g : Nat → Int) : List Int := (List.range N).map g
theorem beqT {a b : Int} (h : a = b) : (a == b) = true := by simpa using h
end Go.AE.Gn
set_option linter.unusedVariables false
set_option linter.unusedSimpArgs false
namespace Go.AE.Gn
open Go Go.AE
structure BM where
  P : Nat
  W : Nat
  T : Nat
  H : Nat
  C : Nat
  A : Nat
  e : Nat
  o : Nat
  f : Nat
  s : Nat
  base : Nat
structure BM.Ok (m : BM) : Prop where
  P1 : 1 ≤ m.P
  P3 : m.P ≤ 3
  W6 : m.W ≤ 6
  T2 : m.T ≤ 2
  H1 : m.H ≤ 1
  C1 : 1 ≤ m.C
  C7 : m.C ≤ 7
  A8 : m.A ≤ 8
  e1 : m.e ≤ 1
  o1 : m.o ≤ 1
  eo : m.e + m.o ≤ 1
  Ce : m.C + m.e + m.o ≤ 8
  Ae : m.A + m.e + m.o ≤ 8
  f2 : 2 ≤ m.f
  f4 : m.f ≤ 4
  s3 : m.s ≤ 3
  s0 : m.s = 0 ∨ 2 ≤ m.s
  Hs : m.s = 0 → m.H = 0
  b8 : m.base ≤ 8
  all : m.base + m.W + m.T + m.H + 6 * m.P * m.C + 2 * m.P * m.A + 2 * m.P * m.e + m.P * m.o + (16 * m.f - m.P) + (if m.s = 0 then 0 else 16 * m.s - 1) ≤ 128
def e0 (b : List Int) (m : BM) (p0 : Nat) (j : Nat) : Int := if j % 4 = 3 then lv b (p0 + 6 * m.P * m.C + j / 4 * m.A) m.A else lv b (p0 + j % 4 * (2 * m.P * m.C) + j / 4 * m.C) m.C
def bitV (b : List Int) (m : BM) (p1 i : Nat) : Int := if m.e = 1 then lv b (p1 + i) 1 else if m.o = 1 then lv b (p1 + i / 2) 1 else 0
end Go.AE.Gn
set_option linter.unusedVariables false
set_option linter.unusedSimpArgs false
namespace Go.AE.Gn
open Go Go.AE
def wL (n : Nat) : List Int := if n = 2 then [0, 21, 43, 64] else if n = 3 then bctable_WeightsT6 else bctable_WeightsT7
def mx (a z p : Int) (n : Nat) : Int := mixV a z ((wL n).getD p.toNat 0) 64 32
end Go.AE.Gn
set_option linter.unusedVariables false
set_option linter.unusedSimpArgs false
namespace Go.AE.Gn
open Go Go.AE
def g1 (b : List Int) (m : BM) (p0 p1 j : Nat) : Int := 2 ^ (m.e + m.o) * e0 b m p0 j + bitV b m p1 (j / 4)
end Go.AE.Gn
set_option linter.unusedSimpArgs false
set_option linter.unusedVariables false
namespace Go.AE.Gn
open Go Go.AE
def n10 (d : Bool) (A B : List Int) (c : Nat) : Int := if d then A.getD c 0 + B.getD c 0 else B.getD c 0
def bad10 (A B : List Int) (c : Nat) : Prop := n10 true A B c < 0 ∨ 31 < n10 true A B c
instance (A B : List Int) (c : Nat) : Decidable (bad10 A B c) := by unfold bad10; exact inferInstance
end Go.AE.Gn
set_option linter.unusedVariables false
set_option linter.unusedSimpArgs false
namespace Go.AE.Gn
open Go Go.AE
def pk (b : List Int) (L : List Nat) : Nat → Int
  | 0 => 0
  | i + 1 => 2 * pk b L i + hv b (L.getD i 0) 1
def plainV (x y z : Int) : List Int := [wideV 4 x, wideV 4 y, wideV 4 z, 255]
def Small (x : Int) : Prop := 0 ≤ x ∧ x < 100000
theorem Small.w {x : Int} (h : Small x) : -9000000000000000000 ≤ x ∧ x ≤ 9000000000000000000 := by unfold Small at h; omega
def distV (n : Int) : Int := etctwo_DistanceT1261.getD (n % 8).toNat 0
end Go.AE.Gn
set_option linter.unusedVariables false
set_option linter.unusedSimpArgs false
namespace Go.AE.Gn
open Go Go.AE
def hL (b : List Int) : List Int := plainV (hv b 1 4) (pk b [5, 6, 7, 11] 4) (pk b [12, 14, 15, 16] 4)
def hM (b : List Int) : List Int := plainV (hv b 17 4) (hv b 21 4) (hv b 25 4)
def hX (b : List Int) : Int := 256 * hv b 1 4 + 16 * pk b [5, 6, 7, 11] 4 + pk b [12, 14, 15, 16] 4
def hY (b : List Int) : Int := 256 * hv b 17 4 + 16 * hv b 21 4 + hv b 25 4
def hD (b : List Int) : Int := distV (if hY b ≤ hX b then 2 * pk b [29, 31] 2 + 1 else 2 * pk b [29, 31] 2)
end Go.AE.Gn
set_option linter.unusedVariables false
set_option linter.unusedSimpArgs false
namespace Go.AE.Gn
open Go Go.AE
theorem zero_row : [(0 : Int), 0, 0, 0] = tab 4 fun _ => 0 := rfl
end Go.AE.Gn
set_option linter.unusedSimpArgs false
set_option linter.unusedVariables false
namespace Go.AE.Gn
open Go Go.AE
def bytes13 (k : Nat) : Nat := match k with | 1 | 4 | 7 | 8 | 9 | 11 => 8 | _ => 16
def mask13 (k : Nat) : Int := match k with | 1 | 7 | 8 => 7 | 2 | 3 | 6 | 9 | 10 => 15 | 4 | 11 => 1 | _ => 3
def wide13 (k : Nat) : Bool := match k with | 11 | 12 => true | _ => false
def Fmt (k : Nat) : Prop := 1 ≤ k ∧ k ≤ 12
theorem fmt_cases {p : Nat → Prop} (h1 : p 1) (h2 : p 2) (h3 : p 3) (h4 : p 4) (h5 : p 5) (h6 : p 6) (h7 : p 7) (h8 : p 8) (h9 : p 9) (h10 : p 10) (h11 : p 11) (h12 : p 12) {k : Nat} (h : Fmt k) : p k := by
  obtain ⟨a, b⟩ := h
  have : k = 1 ∨ k = 2 ∨ k = 3 ∨ k = 4 ∨ k = 5 ∨ k = 6 ∨ k = 7 ∨ k = 8 ∨ k = 9 ∨ k = 10 ∨ k = 11 ∨ k = 12 := by omega
  rcases this with rfl | rfl | rfl | rfl | rfl | rfl | rfl | rfl | rfl | rfl | rfl | rfl <;> assumption
theorem Of_is (F : Nat) {k : Nat} (h : Fmt k) : format_Of F (k : Int) = some (((bytes13 k : Int), (mask13 k, (wide13 k, ()))), (0, ())) := by
  refine fmt_cases (p := fun k => format_Of F (k : Int) = some (((bytes13 k : Int), (mask13 k, (wide13 k, ()))), (0, ()))) ?_ ?_ ?_ ?_ ?_ ?_ ?_ ?_ ?_ ?_ ?_ ?_ h <;> rfl
theorem Of_bad (F : Nat) {f : Int} (h : ¬ (1 ≤ f ∧ f ≤ 12)) : format_Of F f = some ((0, (0, (false, ()))), (5, ())) := by
  have hn : ∀ c : Int, 1 ≤ c → c ≤ 12 → (f == c) = false := fun c h1 h2 => beqF (by omega)
  unfold format_Of
  rw [hn 1 (by decide) (by decide), hn 7 (by decide) (by decide), hn 8 (by decide) (by decide), hn 2 (by decide) (by decide), hn 3 (by decide) (by decide), hn 6 (by decide) (by decide), hn 10 (by decide) (by decide), hn 9 (by decide) (by decide), hn 4 (by decide) (by decide), hn 11 (by decide) (by decide), hn 5 (by decide) (by decide), hn 12 (by decide) (by decide)]
  rfl
theorem fmt_of {f : Int} (h : 1 ≤ f ∧ f ≤ 12) : ∃ k, Fmt k ∧ f = (k : Int) := ⟨f.toNat, ⟨by omega, by omega⟩, by omega⟩
theorem bytes13_ge (k : Nat) : 8 ≤ bytes13 k ∧ bytes13 k ≤ 16 := by
  unfold bytes13
  split <;> decide
section
variable {b : List Int}
end
end Go.AE.Gn
set_option linter.unusedSimpArgs false
set_option linter.unusedVariables false
namespace Go.AE.Gn
open Go Go.AE
theorem rOf_is (F : Nat) (f : Int) : ref13_Of F f = format_Of F f ∧ ∃ r, format_Of F f = some r := by
  by_cases h : 1 ≤ f ∧ f ≤ 12
  · obtain ⟨k, hk, rfl⟩ := fmt_of h
    rw [Of_is F hk]
    refine ⟨?_, _, rfl⟩
    refine fmt_cases (p := fun k => ref13_Of F (k : Int) = some (((bytes13 k : Int), (mask13 k, (wide13 k, ()))), (0, ()))) ?_ ?_ ?_ ?_ ?_ ?_ ?_ ?_ ?_ ?_ ?_ ?_ hk <;> rfl
  · rw [Of_bad F h]
    refine ⟨?_, _, rfl⟩
    unfold ref13_Of
    by_cases h1 : f < 1
    · simp only [h1, decide_true, cond_true]
    · have h2 : 12 < f := by omega
      simp only [h1, decide_false, cond_false, h2, decide_true, cond_true]
theorem Times_eq (F : Nat) (a b : Int) : ref01_Times F a b = field_Times F a b ∧ ∃ r, field_Times F a b = some r := by
  unfold ref01_Times field_Times
  by_cases h1 : a < 0
  · simp only [h1, decide_true, cond_true]
    exact ⟨trivial, _, rfl⟩
  simp only [h1, decide_false, cond_false]
  by_cases h2 : b < 0
  · simp only [h2, decide_true, cond_true]
    exact ⟨trivial, _, rfl⟩
  simp only [h2, decide_false, cond_false]
  by_cases h3 : b = 0
  · subst h3
    by_cases h4 : a = 0
    · subst h4
      exact ⟨rfl, _, rfl⟩
    · simp only [beqF h4, cond_false, beq_self_eq_true, cond_true, show ¬ (0 : Int) < 0 by decide, decide_false, Int.mul_zero]
      exact ⟨rfl, _, rfl⟩
  · have h5 : 0 < b := by omega
    simp only [beqF h3, cond_false, h5, decide_true, cond_true, Bool.not_false]
    by_cases h4 : a = 0
    · subst h4
      have h6 : (2147483647 : Int).tdiv b = 2147483647 / b := tdiv_nonneg (by decide)
      have h7 : 0 ≤ (2147483647 : Int) / b := Int.ediv_nonneg (by decide) (by omega)
      have h8 : (2147483647 : Int) / b ≤ 2147483647 := Int.ediv_le_self _ (by decide)
      rw [h6, w64 (by omega) (by omega)]
      have h9 : ¬ (2147483647 : Int) / b < 0 := by omega
      simp only [beq_self_eq_true, cond_true, h9, decide_false, cond_false, Int.zero_mul]
      exact ⟨rfl, _, rfl⟩
    · simp only [beqF h4, cond_false]
      refine ⟨trivial, ?_⟩
      cases decide (IntKind.i64.wrap ((2147483647 : Int).tdiv b) < a) <;> exact ⟨_, rfl⟩
theorem rBytes_is (F : Nat) (f w h : Int) : ref13_Bytes F f w h = format_Bytes F f w h ∧ ∃ r, format_Bytes F f w h = some r := by
  unfold ref13_Bytes format_Bytes
  obtain ⟨e1, x, e2⟩ := rOf_is F f
  rw [e1, e2]
  simp only [Option.bind_some]
  cases x.2.1 != 0
  · simp only [cond_false]
    by_cases h1 : w < 1
    · simp only [h1, decide_true, cond_true]; exact ⟨trivial, _, rfl⟩
    by_cases h2 : h < 1
    · simp only [h1, h2, decide_true, decide_false, cond_true, cond_false]; exact ⟨trivial, _, rfl⟩
    simp only [h1, h2, decide_false, cond_false]
    have e3 : ref04_Tiles F w h = image_Tiles F w h := rfl
    rw [e3]
    have e4 : ∃ r, image_Tiles F w h = some r := by
      unfold image_Tiles
      simp only [h1, h2, decide_false, cond_false]
      exact ⟨_, rfl⟩
    obtain ⟨t, e4⟩ := e4
    rw [e4]
    simp only [Option.bind_some]
    obtain ⟨e5, n, e6⟩ := Times_eq F t.1 t.2.1
    rw [e5, e6]
    simp only [Option.bind_some]
    cases n.2.1 != 0
    · simp only [cond_false]
      obtain ⟨e7, m, e8⟩ := Times_eq F n.1 x.1.1
      rw [e7, e8]
      exact ⟨rfl, _, rfl⟩
    · exact ⟨rfl, _, rfl⟩
  · exact ⟨rfl, _, rfl⟩
end Go.AE.Gn
set_option linter.unusedVariables false
set_option linter.unusedSimpArgs false
namespace Go.AE.Gn
open Go Go.AE
theorem obd {α β : Type} (a : α) (f : α → Option β) : (some a).bind f = f a := by
  cases h : f a <;> rw [Option.bind_some, h]
def B17 (F : Nat) (f x y : Int) : Int × Int := match format_Bytes F f x y with
  | some r => (r.1, r.2.1)
  | none => (0, 0)
theorem B17_is (F : Nat) (f x y : Int) : format_Bytes F f x y = some ((B17 F f x y).1, ((B17 F f x y).2, ())) := by
  obtain ⟨_, r, h⟩ := rBytes_is F f x y
  unfold B17
  rw [h]
theorem rB17_is (F : Nat) (f x y : Int) : ref13_Bytes F f x y = some ((B17 F f x y).1, ((B17 F f x y).2, ())) := by
  rw [(rBytes_is F f x y).1, B17_is]
def go17 (F : Nat) (f : Int) (w h : Nat) : List Nat → List Int → List Int ⊕ Int
  | [], acc => .inl acc
  | j :: r, acc => if (B17 F f (sd w j : Nat) (sd h j : Nat)).2 = 0 then go17 F f w h r (acc ++ [(B17 F f (sd w j : Nat) (sd h j : Nat)).1]) else .inr (B17 F f (sd w j : Nat) (sd h j : Nat)).2
theorem psizes_run (F : Nat) (f : Int) (w h : Nat) : ∀ (l : List Nat) (acc : List Int), acc.length + l.length ≤ 1000 →
    runL (fun x => u2 (layout_Sizes_r F x)) (l.map fun t => (((sd w t : Nat) : Int), ((sd h t : Nat) : Int))) (f, (acc, ())) =
      (match go17 F f w h l acc with | .inl a => some (.inl (f, (a, ()))) | .inr e => some (.inr (e, ())))
  | [], acc, _ => rfl
  | j :: r, acc, hl => by
    simp only [List.length_cons] at hl
    rw [List.map_cons]
    unfold runL go17
    have e : u2 (layout_Sizes_r F (((sd w j : Nat) : Int), ((sd h j : Nat) : Int))) (f, (acc, ())) = layout_Sizes_r F (((sd w j : Nat) : Int), ((sd h j : Nat) : Int)) f acc := rfl
    rw [e]
    unfold layout_Sizes_r
    rw [B17_is, Option.bind_some]
    generalize B17 F f ((sd w j : Nat) : Int) ((sd h j : Nat) : Int) = b
    by_cases hb : b.2 = 0
    · rw [if_pos hb]
      have c1 : (b.2 != (0 : Int)) = false := by simp [hb]
      have c2 : (decide (acc.length + 1 ≤ 1099511627776) && true) = true := by simp; omega
      simp only [c1, cond_false, c2, cond_true]
      exact psizes_run F f w h r _ (by simp; omega)
    · rw [if_neg hb]
      have c1 : (b.2 != (0 : Int)) = true := by simp [hb]
      simp only [c1, cond_true]
theorem rsizes_run (F : Nat) (f : Int) {w h : Nat} (w1 : 1 ≤ w) (h1 : 1 ≤ h) (wb : w < 4611686018427387904) (hb : h < 4611686018427387904) (hF : 64 ≤ F) (m : Nat) (hm : m ≤ 500) : ∀ (k i : Nat) (acc : List Int), i ≤ m → m - i < k → acc.length ≤ i →
    ref17_Sizes_l0 F k f (w : Int) (h : Int) (m : Int) acc (i : Int) =
      (match go17 F f w h (List.range' i (m - i)) acc with | .inl a => some (.inr (a, ())) | .inr e => some (.inl (e, ())))
  | 0, i, acc, _, hk, _ => by omega
  | k + 1, i, acc, hi0, hk, ha => by
    unfold ref17_Sizes_l0 ref17_Sizes_l0S
    by_cases hi : i < m
    · rw [decide_eq_true (show (i : Int) < (m : Int) by omega), cond_true, rside_is w1 wb (by omega) hF, Option.bind_some, rside_is h1 hb (by omega) hF, Option.bind_some, rB17_is, Option.bind_some]
      rw [show m - i = (m - (i + 1)) + 1 by omega, List.range'_succ]
      unfold go17
      dsimp only
      generalize B17 F f ((sd w i : Nat) : Int) ((sd h i : Nat) : Int) = b
      by_cases hbb : b.2 = 0
      · rw [if_pos hbb]
        have c1 : (b.2 != (0 : Int)) = false := by simp [hbb]
        have c2 : (decide (acc.length + 1 ≤ 1099511627776) && true) = true := by simp; omega
        have e2 : IntKind.wrap .i64 ((i : Int) + 1) = ((i + 1 : Nat) : Int) := by
          rw [wrap_id (by rw [has_iff]; simp only [loB, hiB]; omega)]
          omega
        simp only [c1, cond_false, c2, cond_true, e2]
        exact rsizes_run F f w1 h1 wb hb hF m hm k (i + 1) _ (by omega) (by omega) (by simp; omega)
      · rw [if_neg hbb]
        have c1 : (b.2 != (0 : Int)) = true := by simp [hbb]
        simp only [c1, cond_true]
    · rw [decide_eq_false (show ¬ (i : Int) < (m : Int) by omega), cond_false, show m - i = 0 by omega]
      rfl
theorem levels_run (F : Nat) {w h : Nat} (w1 : 1 ≤ w) (h1 : 1 ≤ h) (wb : w < 4611686018427387904) (hb : h < 4611686018427387904) (hF : 62 ≤ F) (m : Nat) (hm : m ≤ 500) : ∀ (k i : Nat), i ≤ m → m - i < k →
    levelsL (mip_Side F) k (m : Int) (i : Int) (w : Int) (h : Int) = some ((List.range' i (m - i)).map fun t => (((sd w t : Nat) : Int), ((sd h t : Nat) : Int)))
  | 0, i, hi, hk => by omega
  | k + 1, i, hi, hk => by
    unfold levelsL
    by_cases c : i < m
    · have e2 : IntKind.wrap .i64 ((i : Int) + 1) = ((i + 1 : Nat) : Int) := by
        rw [wrap_id (by rw [has_iff]; simp only [loB, hiB]; omega)]
        omega
      rw [decide_eq_true (show (i : Int) < (m : Int) by omega), cond_true, side_is w1 wb (by omega) hF, Option.bind_some, side_is h1 hb (by omega) hF, Option.bind_some, e2, levels_run F w1 h1 wb hb hF m hm k (i + 1) (by omega) (by omega)]
      rw [show m - i = (m - (i + 1)) + 1 by omega, List.range'_succ]
      rfl
    · rw [decide_eq_false (show ¬ (i : Int) < (m : Int) by omega), cond_false, show m - i = 0 by omega]
      rfl
theorem levels_c1 {F w h m : Nat} (w1 : 1 ≤ w) (h1 : 1 ≤ h) (wb : w < 4611686018427387904) (hb : h < 4611686018427387904) (hm : m ≤ 500) (hF : 501 ≤ F) :
    layout_levels_c1 F (m : Int) (w : Int) (h : Int) = some ((List.range' 0 m).map fun t => (((sd w t : Nat) : Int), ((sd h t : Nat) : Int))) :=
  levels_run F w1 h1 wb hb (by omega) m hm F 0 (by omega) (by omega)
def sizes17 (F : Nat) (f : Int) (w h lev : Nat) : List Int × Int := match go17 F f w h (List.range' 0 lev) [] with | .inl a => (a, 0) | .inr e => ([], e)
theorem Sizes_is {F : Nat} {f : Int} {w h lev : Nat} {r : Int × (Int × (Bool × Unit))} (ho : format_Of F f = some (r, (0, ()))) (w1 : 1 ≤ w) (h1 : 1 ≤ h) (wb : w < 4611686018427387904) (hb : h < 4611686018427387904) (l1 : 1 ≤ lev) (l2 : lev ≤ lv17 w h + 1) (hF : 600 ≤ F) :
    layout_Sizes F f (w : Int) (h : Int) (lev : Int) = some ((sizes17 F f w h lev).1, ((sizes17 F f w h lev).2, ())) ∧ ref17_Sizes F f (w : Int) (h : Int) (lev : Int) = some ((sizes17 F f w h lev).1, ((sizes17 F f w h lev).2, ())) := by
  obtain ⟨L1, L2⟩ := Levels17 (F := F) w1 h1 wb hb (by omega)
  have lb := lv17_le w1 h1 wb hb
  unfold layout_Sizes ref17_Sizes
  rw [(rOf_is F f).1, ho]
  simp only [obd]
  simp only [bne_self_eq_false, cond_false, decide_eq_false (show ¬ (w : Int) < 1 by omega), decide_eq_false (show ¬ (h : Int) < 1 by omega), decide_eq_false (show ¬ (lev : Int) < 1 by omega)]
  rw [L1, L2]
  simp only [obd]
  simp only [cond_false, decide_eq_false (show ¬ ((lv17 w h + 1 : Nat) : Int) < (lev : Int) by omega)]
  rw [levels_c1 w1 h1 wb hb (by omega) (by omega), obd, psizes_run F f w h (List.range' 0 lev) [] (by simp; omega)]
  have rr : ref17_Sizes_l0 F F f (w : Int) (h : Int) (lev : Int) [] 0 = match go17 F f w h (List.range' 0 lev) [] with | .inl a => some (.inr (a, ())) | .inr e => some (.inl (e, ())) := by
    have := rsizes_run F f w1 h1 wb hb (by omega) lev (by omega) F 0 [] (by omega) (by omega) (by simp)
    rw [Nat.sub_zero] at this
    exact this
  rw [rr]
  unfold sizes17
  cases go17 F f w h (List.range' 0 lev) [] <;> exact ⟨rfl, rfl⟩
def ts (w h : Nat) : Nat → Nat
  | 0 => 0
  | n + 1 => ts w h n + sd w n * sd h n
theorem ts_mono (w h : Nat) : ∀ (m n : Nat), n ≤ m → ts w h n ≤ ts w h m
  | 0, n, hn => by rw [show n = 0 by omega]; exact Nat.le_refl _
  | m + 1, n, hn => by
    rcases Nat.lt_or_ge n (m + 1) with c | c
    · exact Nat.le_trans (ts_mono w h m n (by omega)) (by simp only [ts]; omega)
    · rw [show n = m + 1 by omega]; exact Nat.le_refl _
theorem sd_one {w i : Nat} (h : w < 2 ^ i) : sd w i = 1 := by
  simp only [sd]
  rw [Nat.div_eq_of_lt h]
  rfl
theorem ts_tail {w h n : Nat} (hw : w < 2 ^ n) (hh : h < 2 ^ n) : ∀ d, ts w h (n + d) = ts w h n + d
  | 0 => rfl
  | d + 1 => by
    have p : (2 : Nat) ^ n ≤ 2 ^ (n + d) := Nat.pow_le_pow_right (by omega) (by omega)
    show ts w h (n + d) + sd w (n + d) * sd h (n + d) = _
    rw [sd_one (Nat.lt_of_lt_of_le hw p), sd_one (Nat.lt_of_lt_of_le hh p), ts_tail hw hh d]
    omega
theorem ts_pos (w h n : Nat) (hn : 1 ≤ n) : 1 ≤ ts w h n := by
  have := ts_mono w h n 1 hn
  have e : ts w h 1 = sd w 0 * sd h 0 := by simp [ts]
  have := Nat.mul_pos (sd_pos w 0) (sd_pos h 0)
  omega
theorem times_is (F : Nat) {a b : Nat} (b1 : 1 ≤ b) (ha : a ≤ 4611686018427387904) : field_Times F (a : Int) (b : Int) = some (if a * b ≤ 2147483647 then (((a * b : Nat) : Int), (0, ())) else (0, (10, ()))) := by
  unfold field_Times
  have q : (2147483647 : Int).tdiv (b : Int) = ((2147483647 / b : Nat) : Int) := rfl
  have q2 : 2147483647 / b ≤ 2147483647 := Nat.div_le_self _ _
  have q3 : (0 : Int) ≤ ((2147483647 / b : Nat) : Int) := Int.natCast_nonneg _
  have q4 : ((2147483647 / b : Nat) : Int) ≤ 2147483647 := Int.ofNat_le.2 q2
  rw [q]
  generalize hq : 2147483647 / b = qq at *
  rw [w64 (by omega) (by omega)]
  rw [decide_eq_false (show ¬ (a : Int) < 0 by omega), cond_false, decide_eq_false (show ¬ (b : Int) < 0 by omega), cond_false, decide_eq_true (show (0 : Int) < (b : Int) by omega), cond_true, beqF (show (b : Int) ≠ 0 by omega), Bool.not_false, cond_true]
  dsimp only
  have key : (qq < a) ↔ ¬ a * b ≤ 2147483647 := by
    rw [← hq, Nat.div_lt_iff_lt_mul (by omega)]
    omega
  by_cases c : a * b ≤ 2147483647
  · rw [if_pos c, decide_eq_false (show ¬ (qq : Int) < (a : Int) by omega), cond_false]
    have e : (a : Int) * (b : Int) = ((a * b : Nat) : Int) := by rw [Int.natCast_mul]
    rw [e, w64 (by omega) (by omega)]
  · rw [if_neg c, decide_eq_true (show (qq : Int) < (a : Int) by omega), cond_true]
theorem sum_is (F : Nat) {a b : Nat} (ha : a ≤ 2147483647) : field_Sum F (a : Int) (b : Int) = some (if a + b ≤ 2147483647 then (((a + b : Nat) : Int), (0, ())) else (0, (10, ()))) := by
  unfold field_Sum
  rw [w64 (by omega) (by omega)]
  rw [decide_eq_false (show ¬ (a : Int) < 0 by omega), cond_false, decide_eq_false (show ¬ (b : Int) < 0 by omega), cond_false, decide_eq_false (show ¬ (2147483647 : Int) < (a : Int) by omega), cond_false]
  dsimp only
  by_cases c : a + b ≤ 2147483647
  · rw [if_pos c, decide_eq_false (show ¬ (2147483647 : Int) - (a : Int) < (b : Int) by omega), cond_false, w64 (by omega) (by omega)]
    congr 2
  · rw [if_neg c, decide_eq_true (show (2147483647 : Int) - (a : Int) < (b : Int) by omega), cond_true]
theorem rsum_eq (F : Nat) (a b : Int) : ref01_Sum F a b = field_Sum F a b := rfl
theorem rtimes_is (F : Nat) {a b : Nat} (b1 : 1 ≤ b) (ha : a ≤ 4611686018427387904) : ref01_Times F (a : Int) (b : Int) = some (if a * b ≤ 2147483647 then (((a * b : Nat) : Int), (0, ())) else (0, (10, ()))) := by
  rw [(Times_eq F _ _).1, times_is F b1 ha]
end Go.AE.Gn
set_option linter.unusedVariables false
set_option linter.unusedSimpArgs false
namespace Go.AE.Gn
open Go Go.AE
theorem texels_run (F : Nat) {w h : Nat} (wb : w < 4611686018427387904) (w1 : 1 ≤ w) (x0 x1 x2 x3 x4 x5 : Int) (x6 : List (List Int)) (x7 : List (List Int × List Int)) (x10 : Int) : ∀ (m i : Nat), ts w h i ≤ 2147483647 →
    runL (fun x => u11 (layout_Texels_r F x)) ((List.range' i m).map fun t => (((sd w t : Nat) : Int), ((sd h t : Nat) : Int))) (x0, (x1, (x2, (x3, (x4, (x5, (x6, (x7, (((ts w h i : Nat) : Int), ((0 : Int), (x10, ()))))))))))) =
      if ts w h (i + m) ≤ 2147483647 then some (.inl (x0, (x1, (x2, (x3, (x4, (x5, (x6, (x7, (((ts w h (i + m) : Nat) : Int), ((0 : Int), (x10, ())))))))))))) else some (.inr (10, ()))
  | 0, i, hi => by
    rw [Nat.add_zero, if_pos hi]
    rfl
  | m + 1, i, hi => by
    rw [List.range'_succ, List.map_cons]
    have sw := sd_le w i w1
    have mono := ts_mono w h (i + (m + 1)) (i + 1) (by omega)
    have step : ts w h (i + 1) = ts w h i + sd w i * sd h i := rfl
    have st : layout_Texels_r F (((sd w i : Nat) : Int), ((sd h i : Nat) : Int)) x0 x1 x2 x3 x4 x5 x6 x7 ((ts w h i : Nat) : Int) 0 x10 = if ts w h (i + 1) ≤ 2147483647 then some (.inl (x0, (x1, (x2, (x3, (x4, (x5, (x6, (x7, (((ts w h (i + 1) : Nat) : Int), ((0 : Int), (x10, ())))))))))))) else some (.inr (10, ())) := by
      unfold layout_Texels_r
      rw [times_is F (sd_pos h i) (by omega), obd]
      by_cases c : sd w i * sd h i ≤ 2147483647
      · rw [if_pos c]
        simp only [bne_self_eq_false, cond_false]
        rw [sum_is F hi, obd, step]
        by_cases c2 : ts w h i + sd w i * sd h i ≤ 2147483647
        · rw [if_pos c2, if_pos c2]
          simp only [bne_self_eq_false, cond_false]
        · rw [if_neg c2, if_neg c2]
          rfl
      · rw [if_neg c, if_neg (by omega)]
        rfl
    have e : u11 (layout_Texels_r F (((sd w i : Nat) : Int), ((sd h i : Nat) : Int))) (x0, (x1, (x2, (x3, (x4, (x5, (x6, (x7, (((ts w h i : Nat) : Int), ((0 : Int), (x10, ()))))))))))) = if ts w h (i + 1) ≤ 2147483647 then some (.inl (x0, (x1, (x2, (x3, (x4, (x5, (x6, (x7, (((ts w h (i + 1) : Nat) : Int), ((0 : Int), (x10, ())))))))))))) else some (.inr (10, ())) := st
    unfold runL
    rw [e]
    by_cases c : ts w h (i + 1) ≤ 2147483647
    · rw [if_pos c]
      have ih := texels_run F (h := h) wb w1 x0 x1 x2 x3 x4 x5 x6 x7 x10 m (i + 1) c
      rw [show i + 1 + m = i + (m + 1) by omega] at ih
      exact ih
    · rw [if_neg c, if_neg (by omega)]
theorem rtexels_run (F : Nat) {w h lev : Nat} (wb : w < 4611686018427387904) (w1 : 1 ≤ w) (h1 : 1 ≤ h) (hb : h < 4611686018427387904) (hF : 64 ≤ F) (x0 x3 x4 : Int) (x6 : List (List Int)) (x7 : List (List Int × List Int)) : ∀ (k i : Nat), i ≤ min lev 80 → min lev 80 - i < k → ts w h i ≤ 2147483647 →
    ref17_Texels_l0 F k x0 (w : Int) (h : Int) x3 x4 (lev : Int) x6 x7 ((ts w h i : Nat) : Int) (i : Int) =
      if ts w h (min lev 80) ≤ 2147483647 then some (.inr (x0, ((w : Int), ((h : Int), (x3, (x4, ((lev : Int), (x6, (x7, (((ts w h (min lev 80) : Nat) : Int), ())))))))))) else some (.inl (10, ()))
  | 0, i, _, hk, _ => by omega
  | k + 1, i, hi, hk, ht => by
    unfold ref17_Texels_l0 ref17_Texels_l0S
    by_cases c0 : i = min lev 80
    · rw [if_pos (by rw [← c0]; exact ht)]
      by_cases c1 : i < lev
      · rw [decide_eq_true (show (i : Int) < (lev : Int) by omega), cond_true, decide_eq_false (show ¬ (i : Int) < 80 by omega), cond_false, c0]
      · rw [decide_eq_false (show ¬ (i : Int) < (lev : Int) by omega), cond_false, c0]
    · rw [decide_eq_true (show (i : Int) < (lev : Int) by omega), cond_true, decide_eq_true (show (i : Int) < 80 by omega), cond_true]
      rw [rside_is w1 wb (by omega) hF, obd, rside_is h1 hb (by omega) hF, obd]
      have sw := sd_le w i w1
      rw [rtimes_is F (sd_pos h i) (by omega), obd]
      have mono := ts_mono w h (min lev 80) (i + 1) (by omega)
      have step : ts w h (i + 1) = ts w h i + sd w i * sd h i := rfl
      by_cases c : sd w i * sd h i ≤ 2147483647
      · rw [if_pos c]
        simp only [bne_self_eq_false, cond_false]
        rw [rsum_eq, sum_is F ht, obd]
        by_cases c2 : ts w h i + sd w i * sd h i ≤ 2147483647
        · rw [if_pos c2]
          simp only [bne_self_eq_false, cond_false]
          have e2 : IntKind.wrap .i64 ((i : Int) + 1) = ((i + 1 : Nat) : Int) := by
            rw [w64 (by omega) (by omega)]
            omega
          rw [e2]
          have ih := rtexels_run F (lev := lev) wb w1 h1 hb hF x0 x3 x4 x6 x7 k (i + 1) (by omega) (by omega) (by omega)
          rw [step] at ih
          exact ih
        · rw [if_neg c2, if_neg (by omega)]
          rfl
      · rw [if_neg c, if_neg (by omega)]
        rfl
def txN (w h lay fac lev : Nat) : Int × Int :=
  if ts w h lev ≤ 2147483647 ∧ ts w h lev * fac ≤ 2147483647 ∧ ts w h lev * fac * lay ≤ 2147483647 then (((ts w h lev * fac * lay : Nat) : Int), 0) else (0, 10)
def tx17 (w h lay fac lev : Int) : Int × Int :=
  if w < 1 ∨ h < 1 ∨ lay < 1 ∨ fac < 1 ∨ lev < 1 then (0, 1) else txN w.toNat h.toNat lay.toNat fac.toNat lev.toNat
theorem ts_real {w h lev : Nat} (w1 : 1 ≤ w) (h1 : 1 ≤ h) {n : Nat} (hn : n = min lev (lv17 w h + 1) ∨ (n = min lev 80 ∧ lv17 w h ≤ 61)) : ts w h n + (lev - n) = ts w h lev := by
  obtain ⟨a, b, _⟩ := lv17_spec w1 h1
  rcases Nat.lt_or_ge n lev with c | c
  · have c2 : lv17 w h + 1 ≤ n := by omega
    have p : (2 : Nat) ^ (lv17 w h + 1) ≤ 2 ^ n := Nat.pow_le_pow_right (by omega) c2
    have := ts_tail (n := n) (Nat.lt_of_lt_of_le a p) (Nat.lt_of_lt_of_le b p) (lev - n)
    rw [show n + (lev - n) = lev by omega] at this
    exact this.symm
  · rw [show n = lev by omega, Nat.sub_self]
    rfl
theorem sum_min (F : Nat) {a b : Nat} (a1 : 1 ≤ a) (ha : a ≤ 2147483647) : field_Sum F (a : Int) ((min b 2147483647 : Nat) : Int) = some (if a + b ≤ 2147483647 then (((a + b : Nat) : Int), (0, ())) else (0, (10, ()))) := by
  rw [sum_is F ha]
  by_cases c : a + b ≤ 2147483647
  · rw [if_pos c, show min b 2147483647 = b by omega, if_pos c]
  · rw [if_neg c, if_neg (by omega)]
theorem tail_is (F : Nat) {n fac lay : Nat} (hn : n ≤ 2147483647) (f1 : 1 ≤ fac) (l1 : 1 ≤ lay) (times : Int → Int → Option (Int × (Int × Unit))) (ht : ∀ a b : Nat, 1 ≤ b → a ≤ 4611686018427387904 → times (a : Int) (b : Int) = some (if a * b ≤ 2147483647 then (((a * b : Nat) : Int), (0, ())) else (0, (10, ())))) :
    ((times (n : Int) (fac : Int)).bind fun r133 => cond (r133.2.1 != (0 : Int)) (some ((0 : Int), (r133.2.1, ()))) ((times r133.1 (lay : Int)).bind fun r135 => some (r135.1, (r135.2.1, ())))) =
      some (if n * fac ≤ 2147483647 ∧ n * fac * lay ≤ 2147483647 then (((n * fac * lay : Nat) : Int), (0, ())) else (0, (10, ()))) := by
  rw [ht n fac f1 (by omega), obd]
  by_cases c : n * fac ≤ 2147483647
  · rw [if_pos c]
    simp only [bne_self_eq_false, cond_false]
    rw [ht (n * fac) lay l1 (by omega), obd]
    by_cases c2 : n * fac * lay ≤ 2147483647
    · rw [if_pos c2, if_pos ⟨c, c2⟩]
    · rw [if_neg c2, if_neg (fun q => c2 q.2)]
  · rw [if_neg c, if_neg (fun q => c q.1)]
    rfl
theorem TexelsN {F : Nat} (f : Int) {w h lay fac lev : Nat} (w1 : 1 ≤ w) (h1 : 1 ≤ h) (l1 : 1 ≤ lay) (f1 : 1 ≤ fac) (v1 : 1 ≤ lev) (wb : w < 4611686018427387904) (hb : h < 4611686018427387904) (vb : lev < 4611686018427387904) (D : List (List Int)) (P : List (List Int × List Int)) (hF : 600 ≤ F) :
    layout_Texels F (f, ((w : Int), ((h : Int), ((lay : Int), ((fac : Int), ((lev : Int), (D, (P, ())))))))) = some ((txN w h lay fac lev).1, ((txN w h lay fac lev).2, ())) ∧
    ref17_Texels F (f, ((w : Int), ((h : Int), ((lay : Int), ((fac : Int), ((lev : Int), (D, (P, ())))))))) = some ((txN w h lay fac lev).1, ((txN w h lay fac lev).2, ())) := by
  have lb := lv17_le w1 h1 wb hb
  constructor
  · unfold layout_Texels
    dsimp only
    rw [decide_eq_false (show ¬ min (min (min (min (w : Int) (h : Int)) (lay : Int)) (fac : Int)) (lev : Int) < 1 by omega), cond_false]
    rw [(Levels17 w1 h1 wb hb (by omega)).1, obd]
    have er : min (lev : Int) ((lv17 w h + 1 : Nat) : Int) = ((min lev (lv17 w h + 1) : Nat) : Int) := by omega
    dsimp only
    rw [er, levels_c1 w1 h1 wb hb (by omega) (by omega), obd]
    have hr := texels_run F (w := w) (h := h) wb w1 f (w : Int) (h : Int) (lay : Int) (fac : Int) (lev : Int) D P ((min lev (lv17 w h + 1) : Nat) : Int) (min lev (lv17 w h + 1)) 0 (by simp [ts])
    rw [show ((ts w h 0 : Nat) : Int) = 0 from rfl, Nat.zero_add] at hr
    rw [hr]
    have tr := ts_real (lev := lev) w1 h1 (n := min lev (lv17 w h + 1)) (.inl rfl)
    unfold txN
    by_cases c : ts w h (min lev (lv17 w h + 1)) ≤ 2147483647
    · rw [if_pos c, obd]
      dsimp only
      have ed : min (IntKind.wrap .i64 ((lev : Int) - ((min lev (lv17 w h + 1) : Nat) : Int))) (2147483647 : Int) = ((min (lev - min lev (lv17 w h + 1)) 2147483647 : Nat) : Int) := by
        rw [w64 (by omega) (by omega)]
        omega
      rw [ed, sum_min F (ts_pos w h _ (by omega)) c, obd, tr]
      by_cases c2 : ts w h lev ≤ 2147483647
      · rw [if_pos c2]
        simp only [bne_self_eq_false, cond_false]
        have tl := tail_is F c2 f1 l1 (field_Times F) (fun a b h1 h2 => times_is F h1 h2)
        rw [tl]
        by_cases c3 : ts w h lev * fac ≤ 2147483647 ∧ ts w h lev * fac * lay ≤ 2147483647
        · rw [if_pos c3, if_pos ⟨c2, c3⟩]
        · rw [if_neg c3, if_neg (fun q => c3 q.2)]
      · rw [if_neg c2, if_neg (fun q => c2 q.1)]
        rfl
    · rw [if_neg c, if_neg (fun q => by omega)]
      rfl
  · unfold ref17_Texels
    dsimp only
    simp only [decide_eq_false (show ¬ (w : Int) < 1 by omega), decide_eq_false (show ¬ (h : Int) < 1 by omega), decide_eq_false (show ¬ (lay : Int) < 1 by omega), decide_eq_false (show ¬ (fac : Int) < 1 by omega), decide_eq_false (show ¬ (lev : Int) < 1 by omega), cond_false]
    have hr := rtexels_run F (lev := lev) wb w1 h1 hb (by omega) f (lay : Int) (fac : Int) D P F 0 (by omega) (by omega) (by simp [ts])
    rw [show ((ts w h 0 : Nat) : Int) = 0 from rfl, show ((0 : Nat) : Int) = 0 from rfl] at hr
    rw [hr]
    have tr := ts_real (lev := lev) w1 h1 (n := min lev 80) (.inr ⟨rfl, lb⟩)
    unfold txN
    by_cases c : ts w h (min lev 80) ≤ 2147483647
    · rw [if_pos c, obd]
      dsimp only
      by_cases c0 : 80 < lev
      · rw [decide_eq_true (show (80 : Int) < (lev : Int) by omega), cond_true]
        have ed : min (IntKind.wrap .i64 ((lev : Int) - 80)) (2147483647 : Int) = ((min (lev - min lev 80) 2147483647 : Nat) : Int) := by
          rw [w64 (by omega) (by omega)]
          omega
        rw [ed, rsum_eq, sum_min F (ts_pos w h _ (by omega)) c, obd, tr]
        by_cases c2 : ts w h lev ≤ 2147483647
        · rw [if_pos c2]
          simp only [bne_self_eq_false, cond_false]
          have tl := tail_is F c2 f1 l1 (ref01_Times F) (fun a b h1 h2 => rtimes_is F h1 h2)
          rw [tl]
          by_cases c3 : ts w h lev * fac ≤ 2147483647 ∧ ts w h lev * fac * lay ≤ 2147483647
          · rw [if_pos c3, if_pos ⟨c2, c3⟩]
          · rw [if_neg c3, if_neg (fun q => c3 q.2)]
        · rw [if_neg c2, if_neg (fun q => c2 q.1)]
          rfl
      · rw [decide_eq_false (show ¬ (80 : Int) < (lev : Int) by omega), cond_false]
        have c2 : ts w h lev ≤ 2147483647 := by rw [show min lev 80 = lev by omega] at c; exact c
        rw [show min lev 80 = lev by omega]
        have tl := tail_is F c2 f1 l1 (ref01_Times F) (fun a b h1 h2 => rtimes_is F h1 h2)
        rw [tl]
        by_cases c3 : ts w h lev * fac ≤ 2147483647 ∧ ts w h lev * fac * lay ≤ 2147483647
        · rw [if_pos c3, if_pos ⟨c2, c3⟩]
        · rw [if_neg c3, if_neg (fun q => c3 q.2)]
    · have := ts_mono w h lev (min lev 80) (by omega)
      rw [if_neg c, if_neg (fun q => by omega)]
      rfl
end Go.AE.Gn

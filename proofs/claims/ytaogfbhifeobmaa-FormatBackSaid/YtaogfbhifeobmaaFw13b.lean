/- The framework AE, part 13b: operations that wait while blocks are held; loads that are taken ahead in a region that draws its order. -/
import Derived.Test.YtaogfbhifeobmaaFw13
import Derived.OrdersHeld
set_option linter.unusedVariables false
set_option linter.unusedSimpArgs false
namespace Go.AE
open Go Go.RowKit

variable {ρ : Type}

/-- A block more. -/
theorem RelH.addS {M : List Place} {H : Heap} {B : Base} {w : World} (r : RelH M H B w) {o : AObj} {pl : Place} (hok : ObjOk M o pl B w) (hpin : ∀ k, o.pin = some k → B.pin k pl) (hvis : pl.nil = false → B.vis pl.blk)
    (hsep : ∀ (i : Nat) (oi : AObj) (pi : Place), H[i]? = some (some oi) → M[i]? = some pi → (oi.own = true ∨ o.own = true) → pi.nil = false → pl.nil = false → pi.blk ≠ pl.blk)
    (hz : ∀ k ob, pl.fz k = some ob → FzAt M k ob) (hfo : o.own = true → pl.nil = false → ¬ B.f pl.blk ∧ ∀ ob, ¬ FzAt M pl.blk ob) : RelH (M ++ [pl]) (H ++ [some o]) B w := by
  have hE : Ext M (M ++ [pl]) := Ext.snoc M _
  have hlen := r.len
  have back : ∀ (i : Nat) (oi : AObj), (H ++ [some o])[i]? = some (some oi) → (i < M.length ∧ H[i]? = some (some oi)) ∨ (i = M.length ∧ oi = o) := by
    intro i oi hi
    rw [List.getElem?_append] at hi
    split at hi
    · exact .inl ⟨by omega, hi⟩
    · have h3 : i - H.length = 0 := by
        rcases Nat.eq_zero_or_pos (i - H.length) with h | h
        · exact h
        · rw [List.getElem?_eq_none (by simp; omega)] at hi; cases hi
      rw [h3] at hi
      simp at hi
      exact .inr ⟨by omega, hi.symm⟩
  have place : ∀ (i : Nat) (pi : Place), (M ++ [pl])[i]? = some pi → i < M.length → M[i]? = some pi := by
    intro i pi hpi hlt
    rwa [List.getElem?_append_left hlt] at hpi
  have last : ∀ (pi : Place), (M ++ [pl])[M.length]? = some pi → pi = pl := by
    intro pi hpi
    simp at hpi
    exact hpi.symm
  have mono : ∀ (oi : AObj) (pi : Place), ObjOk M oi pi B w → ObjOk (M ++ [pl]) oi pi B w := by
    intro oi pi h
    rcases h with ⟨n1, n2, n3⟩ | ⟨n1, cs1, el1, fz1, g1, g2, g3, g4, g5⟩
    · exact .inl ⟨n1, n2, n3.mono hE⟩
    · exact .inr ⟨n1, cs1, el1, fz1, g1, g2, g3, g4.mono hE, g5⟩
  refine ⟨by simp [hlen], r.base, fun i oi hi => ?_, fun i j oi oj pi pj hi hj hpi hpj hne how hni hnj => ?_, fun i oi pi k hi hpi hk => ?_, fun i oi pi hi hpi hn => ?_, fun k ob hk => r.fz k ob (FzAt.snocS hz hk), fun i oi pi hi hpi how hn => ?_, r.bf⟩
  · rcases back i oi hi with ⟨hlt, hi'⟩ | ⟨rfl, rfl⟩
    · obtain ⟨pi, hpi, hoki⟩ := r.obj i oi hi'
      exact ⟨pi, hE _ _ hpi, mono _ _ hoki⟩
    · exact ⟨pl, by simp, mono _ _ hok⟩
  · rcases back i oi hi with ⟨hlt, hi'⟩ | ⟨rfl, rfl⟩ <;> rcases back j oj hj with ⟨hlt2, hj'⟩ | ⟨rfl, rfl⟩
    · exact r.sep i j oi oj pi pj hi' hj' (place i pi hpi hlt) (place j pj hpj hlt2) hne how hni hnj
    · have := last pj hpj
      subst this
      exact hsep i oi pi hi' (place i pi hpi hlt) (.inl how) hni hnj
    · have := last pi hpi
      subst this
      exact fun h => hsep j oj pj hj' (place j pj hpj hlt2) (.inr how) hnj hni h.symm
    · exact absurd rfl hne
  · rcases back i oi hi with ⟨hlt, hi'⟩ | ⟨rfl, rfl⟩
    · exact r.pin i oi pi k hi' (place i pi hpi hlt) hk
    · rw [last pi hpi]; exact hpin k hk
  · rcases back i oi hi with ⟨hlt, hi'⟩ | ⟨rfl, rfl⟩
    · exact r.vis i oi pi hi' (place i pi hpi hlt) hn
    · rw [last pi hpi] at hn ⊢; exact hvis hn
  · rcases back i oi hi with ⟨hlt, hi'⟩ | ⟨rfl, rfl⟩
    · exact ⟨(r.fo i oi pi hi' (place i pi hpi hlt) how hn).1, fun ob h => (r.fo i oi pi hi' (place i pi hpi hlt) how hn).2 ob (FzAt.snocS hz h)⟩
    · rw [last pi hpi] at hn ⊢; exact ⟨(hfo how hn).1, fun ob h => (hfo how hn).2 ob (FzAt.snocS hz h)⟩

theorem RelH.add {M : List Place} {H : Heap} {B : Base} {w : World} (r : RelH M H B w) {o : AObj} {pl : Place} (hok : ObjOk M o pl B w) (hpin : ∀ k, o.pin = some k → B.pin k pl) (hvis : pl.nil = false → B.vis pl.blk)
    (hsep : ∀ (i : Nat) (oi : AObj) (pi : Place), H[i]? = some (some oi) → M[i]? = some pi → (oi.own = true ∨ o.own = true) → pi.nil = false → pl.nil = false → pi.blk ≠ pl.blk)
    (hz : pl.fz = noFz) (hfo : o.own = true → pl.nil = false → ¬ B.f pl.blk ∧ ∀ ob, ¬ FzAt M pl.blk ob) : RelH (M ++ [pl]) (H ++ [some o]) B w :=
  r.addS hok hpin hvis hsep (fun k ob h => by rw [hz] at h; cases h) hfo

/-! ### new variables, in whatever order -/

def bareAlloc (o : Oper) : Option TypeId := match o.guard with
  | none => match o.op with
    | .alloc t => some t
    | _ => none
  | some _ => none

theorem bareAlloc_spec {o : Oper} {t : TypeId} (h : bareAlloc o = some t) : o.guard = none ∧ o.op = .alloc t := by
  unfold bareAlloc at h
  split at h
  · rename_i hg
    split at h
    · rename_i t' ho
      cases h
      exact ⟨hg, ho⟩
    · cases h
  · cases h

theorem run_alloc {P : Program} {ρ : Operand → Value} {o : Oper} {t : TypeId} (ho : o.op = .alloc t) {z : Value} (hz : ∀ w, (zeroValue t).run P w = .ok z w) (w : World) :
    (execOp ρ o).run P w = .ok (.value (.pointer (some ⟨w.heap.size, 0, none⟩))) (w.alloc (.cells z.cells t)) := by
  simp [execOp, ho, Instr.alloc, hz w, newVar, newRow, newObj, Sem.run]

/-- A new variable's block. -/
theorem RelH.addVar {M : List Place} {H : Heap} {B : Base} {w : World} (r : RelH M H B w) {z : Value} {t : TypeId} {cs : List AV} (hc : ∀ M, RelC M cs z.cells.toList) {g : Nat}
    (hg : w.heap[g]? = some (.cells z.cells t)) (hw : B.w g ∧ B.vis g) (hf : ¬ B.f g ∧ ∀ ob, ¬ FzAt M g ob) (hs : ∀ (i : Nat) (o : AObj) (pl : Place), H[i]? = some (some o) → M[i]? = some pl → pl.nil = false → pl.blk ≠ g) :
    RelH (M ++ [⟨false, g, 0, wid cs, z.cells.size, noFz⟩]) (H ++ [some ⟨.segs cs, true, none⟩]) B w := by
  have hl := RelC_length (hc M)
  simp at hl
  refine r.add (.inr ⟨rfl, z.cells, t, (0, 0), hg, rfl, by simp [hl], ?_, fun _ => ⟨rfl, rfl, hw.1⟩⟩) (fun k h => by cases h) (fun _ => hw.2) (fun i oi pi hi hpi _ hn _ => hs i oi pi hi hpi hn) rfl (fun _ _ => hf)
  simp only [RelO, List.drop_zero]
  rw [List.take_of_length_le (by simp; omega)]
  exact hc M

/-- Two of them, whichever was made first. -/
theorem two_vars {M : List Place} {st : St} {B : Base} {w0 : World} {a : Act} {w : World} (hr : Rel M st B w0 a w) {z1 z2 : Value} {t1 t2 : TypeId} {c1 c2 : List AV} (h1 : ∀ M, RelC M c1 z1.cells.toList) (h2 : ∀ M, RelC M c2 z2.cells.toList)
    {w' : World} {g1 g2 : Nat} (hb : Below w.heap.size w w') (e1 : w'.heap[g1]? = some (.cells z1.cells t1)) (e2 : w'.heap[g2]? = some (.cells z2.cells t2)) (k1 : w.heap.size ≤ g1) (k2 : w.heap.size ≤ g2) (hne : g1 ≠ g2) (d1 d2 : Option Tmp) :
    ∃ M', Ext M M' ∧ Rel M' ⟨((st.put d1 (.ptr st.heap.length 0 none (wid c1) (wid c1))).put d2 (.ptr (st.heap.length + 1) 0 none (wid c2) (wid c2))).tmps, st.heap ++ [some ⟨.segs c1, true, none⟩] ++ [some ⟨.segs c2, true, none⟩]⟩ B w0
      ((a.put d1 (.pointer (some ⟨g1, 0, none⟩))).put d2 (.pointer (some ⟨g2, 0, none⟩))) w' := by
  have r0 : RelH M st.heap B w' := hr.heap.below hb
  have old : ∀ g, w.heap.size ≤ g → ∀ (i : Nat) (o : AObj) (pl : Place), st.heap[i]? = some (some o) → M[i]? = some pl → pl.nil = false → pl.blk ≠ g := by
    intro g hg i o pl hi hpl hn
    obtain ⟨pl', hp', hok⟩ := hr.heap.obj i o hi
    rw [hpl] at hp'; cases hp'
    have : pl.blk < w.heap.size := by
      rcases hok with ⟨q, _⟩ | ⟨_, cs, el, fz, q, _⟩
      · rw [hn] at q; cases q
      · exact (Array.getElem?_eq_some_iff.1 q).1
    omega
  have nof : ∀ g, w.heap.size ≤ g → ¬ B.f g ∧ ∀ ob, ¬ FzAt M g ob := fun g hg => ⟨hr.heap.bf g hg, fun ob h => absurd (hr.heap.fz_lt h) (by omega)⟩
  have r1 := r0.addVar h1 e1 (hr.heap.base g1 k1) (nof g1 k1) (old g1 k1)
  have r2 := r1.addVar h2 e2 (hr.heap.base g2 k2) ⟨(nof g2 k2).1, fun ob h => (nof g2 k2).2 ob (FzAt.snoc rfl h)⟩ (by
    intro i o pl hi hpl hn
    rw [List.getElem?_append] at hi hpl
    rw [r0.len] at hi
    split at hi
    · rename_i hlt
      rw [if_pos hlt] at hpl
      exact old g2 k2 i o pl hi hpl hn
    · rename_i hlt
      rw [if_neg hlt] at hpl
      cases hq : i - M.length with
      | zero => rw [hq] at hpl; simp at hpl; subst hpl; exact hne
      | succ q => rw [hq] at hpl; simp at hpl)
  have hE : Ext M (M ++ [⟨false, g1, 0, wid c1, z1.cells.size, noFz⟩] ++ [⟨false, g2, 0, wid c2, z2.cells.size, noFz⟩]) := (Ext.snoc _ _).trans (Ext.snoc _ _)
  have hb' : Beneath B w w' := Beneath.of hb
  refine ⟨_, hE, ?_⟩
  have base : Rel (M ++ [⟨false, g1, 0, wid c1, z1.cells.size, noFz⟩] ++ [⟨false, g2, 0, wid c2, z2.cells.size, noFz⟩]) ⟨st.tmps, st.heap ++ [some ⟨.segs c1, true, none⟩] ++ [some ⟨.segs c2, true, none⟩]⟩ B w0 a w' :=
    ⟨hr.tmps.mono hE, hr.defers, r2, hr.below.trans hb'⟩
  have v1 : RelV (M ++ [⟨false, g1, 0, wid c1, z1.cells.size, noFz⟩] ++ [⟨false, g2, 0, wid c2, z2.cells.size, noFz⟩]) (.ptr st.heap.length 0 none (wid c1) (wid c1)) (.pointer (some ⟨g1, 0, none⟩)) := by
    simp only [RelV, RelX]
    exact ⟨⟨false, g1, 0, wid c1, z1.cells.size, noFz⟩, by rw [hr.heap.len, List.append_assoc, List.getElem?_append_right (Nat.le_refl _)]; simp, rfl, by simp, by simp, by simp⟩
  have v2 : RelV (M ++ [⟨false, g1, 0, wid c1, z1.cells.size, noFz⟩] ++ [⟨false, g2, 0, wid c2, z2.cells.size, noFz⟩]) (.ptr (st.heap.length + 1) 0 none (wid c2) (wid c2)) (.pointer (some ⟨g2, 0, none⟩)) := by
    simp only [RelV, RelX]
    exact ⟨⟨false, g2, 0, wid c2, z2.cells.size, noFz⟩, by rw [hr.heap.len, List.append_assoc, List.getElem?_append_right (by omega)]; simp, rfl, by simp, by simp, by simp⟩
  have q1 := (base.put v1 d1).put v2 d2
  cases d1 <;> cases d2 <;> exact q1

/-! ### blocks that are held -/

/-- Some blocks may be read, but not written. -/
def freezeH (H : Heap) : List Nat → Heap
  | [] => H
  | b :: bs => match H[b]? with
    | some (some o) => (freezeH H bs).set b (some { o with own := false })
    | _ => freezeH H bs

def present (H : Heap) (b : Nat) : Bool := match H[b]? with
  | some (some _) => true
  | _ => false
def ownAt (H : Heap) (b : Nat) : Bool := match H[b]? with
  | some (some o) => o.own
  | _ => false

/-- They are the call's own again; what is new and not the call's own is no more looked at. -/
def thaw (bs : List Nat) : Heap → Nat → Heap → Option Heap
  | [], _, H' => some (H'.map fun x => match x with | some o => if o.own then some o else none | none => none)
  | _ :: _, _, [] => none
  | none :: H, i, none :: H' => (thaw bs H (i + 1) H').map (none :: ·)
  | none :: _, _, some _ :: _ => none
  | some _ :: H, i, none :: H' => (thaw bs H (i + 1) H').map (none :: ·)
  | some o :: H, i, some o' :: H' => (thaw bs H (i + 1) H').map (some (if (bs.contains i && o.own) = true then { o' with own := true } else o') :: ·)

def thawO (bs : List Nat) (H H' : Heap) : Option Heap := if (bs.any (ownAt H)) = true then thaw bs H 0 H' else some H'

/-- But for what some blocks are. -/
def Base.but (B : Base) (M : List Place) (bs : List Nat) : Base := ⟨fun k => B.w k ∧ ∀ b ∈ bs, ∀ pl, M[b]? = some pl → pl.nil = false → k ≠ pl.blk, B.vis, B.pin, fun k => B.f k ∨ ∃ ob, FzAt M k ob⟩

theorem freezeH_get (H : Heap) : ∀ (bs : List Nat) (i : Nat) (o : AObj), (freezeH H bs)[i]? = some (some o) → ∃ o', H[i]? = some (some o') ∧ o'.c = o.c ∧ o'.pin = o.pin ∧ (o.own = true → o'.own = true ∧ i ∉ bs)
  | [], i, o, h => ⟨o, h, rfl, rfl, fun e => ⟨e, by simp⟩⟩
  | b :: bs, i, o, h => by
    unfold freezeH at h
    split at h
    · rename_i ob hb
      by_cases hi : b = i
      · subst hi
        by_cases hl : b < (freezeH H bs).length
        · rw [List.getElem?_set_self hl] at h
          cases h
          exact ⟨ob, hb, rfl, rfl, fun e => by cases e⟩
        · rw [List.getElem?_eq_none (by simpa using hl)] at h
          cases h
      · rw [List.getElem?_set_ne hi] at h
        obtain ⟨o', h1, h2, h3, h4⟩ := freezeH_get H bs i o h
        exact ⟨o', h1, h2, h3, fun e => ⟨(h4 e).1, by simp only [List.mem_cons, not_or]; exact ⟨fun e => hi e.symm, (h4 e).2⟩⟩⟩
    · rename_i hb
      obtain ⟨o', h1, h2, h3, h4⟩ := freezeH_get H bs i o h
      refine ⟨o', h1, h2, h3, fun e => ⟨(h4 e).1, ?_⟩⟩
      simp only [List.mem_cons, not_or]
      refine ⟨fun e => ?_, (h4 e).2⟩
      subst e
      exact hb _ h1

theorem freezeH_len (H : Heap) : ∀ bs, (freezeH H bs).length = H.length
  | [] => rfl
  | b :: bs => by
    unfold freezeH
    split
    · rw [List.length_set, freezeH_len H bs]
    · exact freezeH_len H bs

theorem objOk_lt {M : List Place} {o : AObj} {pl : Place} {B : Base} {w : World} (h : ObjOk M o pl B w) (hn : pl.nil = false) : pl.blk < w.heap.size := by
  rcases h with ⟨h1, _⟩ | ⟨_, cs, el, fz, hg, _⟩
  · rw [hn] at h1; cases h1
  · exact (Array.getElem?_eq_some_iff.1 hg).1

theorem RelH.freeze {M : List Place} {H : Heap} {B : Base} {w : World} (r : RelH M H B w) {bs : List Nat} (hp : bs.all (present H) = true) : RelH M (freezeH H bs) (B.but M bs) w := by
  have pres : ∀ b ∈ bs, ∃ o, H[b]? = some (some o) := by
    intro b hb
    have := List.all_eq_true.1 hp b hb
    unfold present at this
    split at this
    · rename_i o ho; exact ⟨o, ho⟩
    · cases this
  refine ⟨by rw [freezeH_len, r.len], fun k hk => ⟨⟨(r.base k hk).1, ?_⟩, (r.base k hk).2⟩, fun i o ho => ?_, fun i j oi oj pi pj hi hj hpi hpj hij hoi hni hnj => ?_, fun i o pl k ho hpl hk => ?_, fun i o pl ho hpl hn => ?_, fun k ob hk => ⟨(r.fz k ob hk).1, (r.fz k ob hk).2.1, .inr (.inr ⟨ob, hk⟩)⟩, fun i o pl ho hpl how hn => ?_, fun k hk h => ?_⟩
  · intro b hb pl hpl hn e
    obtain ⟨o, ho⟩ := pres b hb
    obtain ⟨pl', hp', hok⟩ := r.obj b o ho
    rw [hpl] at hp'; cases hp'
    have := objOk_lt hok hn
    omega
  · obtain ⟨o', h1, h2, h3, h4⟩ := freezeH_get H bs i o ho
    obtain ⟨pl, hpl, hok⟩ := r.obj i o' h1
    refine ⟨pl, hpl, ?_⟩
    rcases hok with ⟨g1, g2, g3⟩ | ⟨g1, cs, el, fz, g2, g3, g4, g5, g6⟩
    · exact .inl ⟨g1, g2, h2 ▸ g3⟩
    · refine .inr ⟨g1, cs, el, fz, g2, g3, g4, h2 ▸ g5, fun e => ?_⟩
      obtain ⟨e1, e2⟩ := h4 e
      obtain ⟨q1, q2, q3⟩ := g6 e1
      refine ⟨q1, q2, q3, fun b hb pb hpb hnb => ?_⟩
      obtain ⟨ob, hob⟩ := pres b hb
      exact r.sep i b o' ob pl pb h1 hob hpl hpb (fun e => e2 (e ▸ hb)) e1 g1 hnb
  · obtain ⟨oi', h1, _, _, h4⟩ := freezeH_get H bs i oi hi
    obtain ⟨oj', k1, _, _, _⟩ := freezeH_get H bs j oj hj
    exact r.sep i j oi' oj' pi pj h1 k1 hpi hpj hij (h4 hoi).1 hni hnj
  · obtain ⟨o', h1, h2, h3, _⟩ := freezeH_get H bs i o ho
    exact r.pin i o' pl k h1 hpl (h3 ▸ hk)
  · obtain ⟨o', h1, _, _, _⟩ := freezeH_get H bs i o ho
    exact r.vis i o' pl h1 hpl hn
  · obtain ⟨o', h1, _, _, h4⟩ := freezeH_get H bs i o ho
    obtain ⟨q1, q2⟩ := r.fo i o' pl h1 hpl (h4 how).1 hn
    exact ⟨fun h => h.elim q1 fun ⟨ob, h⟩ => q2 ob h, q2⟩
  · rcases h with h | ⟨ob, h⟩
    · exact r.bf k hk h
    · exact absurd (r.fz_lt h) (by omega)

/-- What each entry comes from. -/
theorem thaw_get (bs : List Nat) : ∀ {H : Heap} {n : Nat} {H' H2 : Heap}, thaw bs H n H' = some H2 → H2.length = H'.length ∧ ∀ (i : Nat) (o : AObj), H2[i]? = some (some o) →
    ∃ o', H'[i]? = some (some o') ∧ o'.c = o.c ∧ o'.pin = o.pin ∧ ((H.length ≤ i ∧ o'.own = true ∧ o.own = true) ∨ (∃ oi, H[i]? = some (some oi) ∧ (o'.own = o.own ∨ ((n + i) ∈ bs ∧ oi.own = true ∧ o.own = true))))
  | [], n, H', H2, h => by
    simp only [thaw, Option.some.injEq] at h
    subst h
    refine ⟨by simp, fun i o ho => ?_⟩
    rw [List.getElem?_map] at ho
    cases hx : H'[i]? with
    | none => rw [hx] at ho; cases ho
    | some x =>
      rw [hx] at ho
      cases x with
      | none => simp at ho
      | some o' =>
        simp only [Option.map_some, Option.some.injEq] at ho
        split at ho
        · rename_i hown
          cases ho
          exact ⟨o, rfl, rfl, rfl, .inl ⟨by simp, hown, hown⟩⟩
        · cases ho
  | x :: H, n, [], H2, h => by cases x <;> simp [thaw] at h
  | none :: H, n, none :: H', H2, h => by
    simp only [thaw, Option.map_eq_some_iff] at h
    obtain ⟨H3, h3, rfl⟩ := h
    obtain ⟨hl, hg⟩ := thaw_get bs h3
    refine ⟨by simp [hl], fun i o ho => ?_⟩
    cases i with
    | zero => simp at ho
    | succ i =>
      obtain ⟨o', g1, g2, g3, g4⟩ := hg i o (by simpa using ho)
      refine ⟨o', by simpa using g1, g2, g3, ?_⟩
      rcases g4 with ⟨q1, q2⟩ | ⟨oi, q1, q2⟩
      · exact .inl ⟨by simp; omega, q2⟩
      · exact .inr ⟨oi, by simpa using q1, by rw [show n + (i + 1) = n + 1 + i by omega]; exact q2⟩
  | none :: H, n, some o :: H', H2, h => by simp [thaw] at h
  | some oo :: H, n, none :: H', H2, h => by
    simp only [thaw, Option.map_eq_some_iff] at h
    obtain ⟨H3, h3, rfl⟩ := h
    obtain ⟨hl, hg⟩ := thaw_get bs h3
    refine ⟨by simp [hl], fun i o ho => ?_⟩
    cases i with
    | zero => simp at ho
    | succ i =>
      obtain ⟨o', g1, g2, g3, g4⟩ := hg i o (by simpa using ho)
      refine ⟨o', by simpa using g1, g2, g3, ?_⟩
      rcases g4 with ⟨q1, q2⟩ | ⟨oi, q1, q2⟩
      · exact .inl ⟨by simp; omega, q2⟩
      · exact .inr ⟨oi, by simpa using q1, by rw [show n + (i + 1) = n + 1 + i by omega]; exact q2⟩
  | some oo :: H, n, some oo' :: H', H2, h => by
    simp only [thaw, Option.map_eq_some_iff] at h
    obtain ⟨H3, h3, rfl⟩ := h
    obtain ⟨hl, hg⟩ := thaw_get bs h3
    refine ⟨by simp [hl], fun i o ho => ?_⟩
    cases i with
    | zero =>
      simp only [List.getElem?_cons_zero, Option.some.injEq] at ho
      subst ho
      refine ⟨oo', rfl, by split <;> rfl, by split <;> rfl, .inr ⟨oo, rfl, ?_⟩⟩
      split
      · rename_i hc
        simp only [Bool.and_eq_true, List.contains_iff_mem] at hc
        exact .inr ⟨hc.1, hc.2, rfl⟩
      · exact .inl rfl
    | succ i =>
      obtain ⟨o', g1, g2, g3, g4⟩ := hg i o (by simpa using ho)
      refine ⟨o', by simpa using g1, g2, g3, ?_⟩
      rcases g4 with ⟨q1, q2⟩ | ⟨oi, q1, q2⟩
      · exact .inl ⟨by simp; omega, q2⟩
      · exact .inr ⟨oi, by simpa using q1, by rw [show n + (i + 1) = n + 1 + i by omega]; exact q2⟩

/-- Another base, of which the same may be written. -/
theorem RelH.rebase {M : List Place} {H : Heap} {B B' : Base} {w : World} (r : RelH M H B w) (hw : ∀ k, B.w k → B'.w k) (hv : ∀ k, B.vis k → B'.vis k) (hp : ∀ k pl, B.pin k pl → B'.pin k pl) (hf : ∀ k ob, FzAt M k ob → B.w k ∨ B.f k → B'.w k ∨ B'.f k) (hf2 : ∀ k, B'.f k → B.f k) : RelH M H B' w := by
  refine ⟨r.len, fun k hk => ⟨hw _ (r.base k hk).1, hv _ (r.base k hk).2⟩, fun i o ho => ?_, r.sep, fun i o pl k h1 h2 h3 => hp _ _ (r.pin i o pl k h1 h2 h3), fun i o pl h1 h2 h3 => hv _ (r.vis i o pl h1 h2 h3), fun k ob h => ⟨(r.fz k ob h).1, hv _ (r.fz k ob h).2.1, hf k ob h (r.fz k ob h).2.2⟩, fun i o pl h1 h2 h3 h4 => ⟨fun h => (r.fo i o pl h1 h2 h3 h4).1 (hf2 _ h), (r.fo i o pl h1 h2 h3 h4).2⟩, fun k hk h => r.bf k hk (hf2 _ h)⟩
  obtain ⟨pl, hpl, hok⟩ := r.obj i o ho
  refine ⟨pl, hpl, ?_⟩
  rcases hok with hok | ⟨g1, cs, el, fz, g2, g3, g4, g5, g6⟩
  · exact .inl hok
  · exact .inr ⟨g1, cs, el, fz, g2, g3, g4, g5, fun e => ⟨(g6 e).1, (g6 e).2.1, hw _ (g6 e).2.2⟩⟩

theorem but_beneath {B : Base} {M : List Place} {bs : List Nat} {w w' : World} (h : Beneath (B.but M bs) w w') : Beneath B w w' :=
  ⟨h.os, h.tape, h.output, h.size, fun k hk hw => h.block k hk fun h2 => hw h2.1⟩

theorem RelH.thaw {M M' : List Place} {H H' H2 : Heap} {B : Base} {w w' : World} (r : RelH M H B w) {bs : List Nat} (r' : RelH M' H' (B.but M bs) w') (hE : Ext M M') (hb : Beneath (B.but M bs) w w') (h : thawO bs H H' = some H2) : RelH M' H2 B w' := by
  have r2 : RelH M' H' B w' := r'.rebase (fun k h => h.1) (fun k h => h) (fun k pl h => h) (fun k ob _ h => h.elim (fun h => .inl h.1) fun h => h.elim .inr fun ⟨ob, h⟩ => (r.fz k ob h).2.2) (fun k h => .inl h)
  unfold thawO at h
  split at h
  case isFalse => cases h; exact r2
  obtain ⟨hl, hg⟩ := thaw_get bs h
  -- what is thawed was the call's own
  have was : ∀ (i : Nat) (o o' oi : AObj) (pl : Place), H'[i]? = some (some o') → M'[i]? = some pl → H[i]? = some (some oi) → oi.own = true → i ∈ bs → pl.nil = false →
      M[i]? = some pl ∧ ObjOk M oi pl B w ∧ w'.heap[pl.blk]? = w.heap[pl.blk]? := by
    intro i o o' oi pl _ hpl hoi hown hi hn
    obtain ⟨pl0, hp0, hok⟩ := r.obj i oi hoi
    have := hE i pl0 hp0
    rw [hpl] at this; cases this
    refine ⟨hp0, hok, hb.block _ (objOk_lt hok hn) fun h2 => ?_⟩
    exact h2.2 i hi pl hp0 hn rfl
  refine ⟨by rw [hl, r'.len], r2.base, fun i o ho => ?_, fun i j oi oj pi pj hi hj hpi hpj hij hoi hni hnj => ?_, fun i o pl k ho hpl hk => ?_, fun i o pl ho hpl hn => ?_, r2.fz, fun i o pl ho hpl how hn => ?_, r2.bf⟩
  · obtain ⟨o', g1, g2, g3, g4⟩ := hg i o ho
    obtain ⟨pl, hpl, hok⟩ := r2.obj i o' g1
    refine ⟨pl, hpl, ?_⟩
    rcases hok with ⟨q1, q2, q3⟩ | ⟨q1, cs, el, fz, q2, q3, q4, q5, q6⟩
    · exact .inl ⟨q1, q2, g2 ▸ q3⟩
    · refine .inr ⟨q1, cs, el, fz, q2, q3, q4, g2 ▸ q5, fun e => ?_⟩
      rcases g4 with ⟨_, s2, _⟩ | ⟨oi, s1, s2⟩
      · exact q6 s2
      · rcases s2 with s2 | ⟨s2, s3, _⟩
        · exact q6 (s2.trans e)
        · rw [Nat.zero_add] at s2
          obtain ⟨t1, t2, t3⟩ := was i o o' oi pl g1 hpl s1 s3 s2 q1
          rcases t2 with ⟨u1, _⟩ | ⟨_, cs0, el0, fz0, u1, u2, u3, u4, u5⟩
          · rw [q1] at u1; cases u1
          · rw [t3, u1] at q2
            cases q2
            exact u5 s3
  · obtain ⟨oi', g1, g2, g3, g4⟩ := hg i oi hi
    obtain ⟨oj', k1, k2, k3, k4⟩ := hg j oj hj
    rcases g4 with ⟨_, s2, _⟩ | ⟨oii, s1, s2⟩
    · exact r2.sep i j oi' oj' pi pj g1 k1 hpi hpj hij s2 hni hnj
    · rcases s2 with s2 | ⟨s2, s3, _⟩
      · exact r2.sep i j oi' oj' pi pj g1 k1 hpi hpj hij (s2.trans hoi) hni hnj
      · rcases k4 with ⟨_, v2, _⟩ | ⟨ojj, v1, _⟩
        · exact fun e => r2.sep j i oj' oi' pj pi k1 g1 hpj hpi (Ne.symm hij) v2 hnj hni e.symm
        · rw [Nat.zero_add] at s2
          obtain ⟨p0, hp0, _⟩ := r.obj i oii s1
          obtain ⟨p1, hp1, _⟩ := r.obj j ojj v1
          have e0 := hE i p0 hp0
          have e1 := hE j p1 hp1
          rw [hpi] at e0; cases e0
          rw [hpj] at e1; cases e1
          exact r.sep i j oii ojj pi pj s1 v1 hp0 hp1 hij s3 hni hnj
  · obtain ⟨o', g1, g2, g3, _⟩ := hg i o ho
    exact r2.pin i o' pl k g1 hpl (g3 ▸ hk)
  · obtain ⟨o', g1, _, _, _⟩ := hg i o ho
    exact r2.vis i o' pl g1 hpl hn
  · obtain ⟨o', g1, g2, g3, g4⟩ := hg i o ho
    rcases g4 with ⟨_, s2, _⟩ | ⟨oi, s1, s2⟩
    · exact r2.fo i o' pl g1 hpl s2 hn
    · rcases s2 with s2 | ⟨s2, s3, _⟩
      · exact r2.fo i o' pl g1 hpl (s2.trans how) hn
      · rw [Nat.zero_add] at s2
        obtain ⟨t1, _, _⟩ := was i o o' oi pl g1 hpl s1 s3 s2 hn
        obtain ⟨q1, q2⟩ := r.fo i oi pl s1 t1 s3 hn
        refine ⟨q1, fun ob h => ?_⟩
        rcases (r'.fz _ ob h).2.2 with h1 | h1 | ⟨ob', h1⟩
        · exact h1.2 i s2 pl t1 hn rfl
        · exact q1 h1
        · exact q2 ob' h1

/-- An operation, while some blocks are held. -/
def evHeld (P : Program) (cal : Cal ρ) (o : Oper) (bs : List Nat) (st : St) (K : St → Option ρ) : Option ρ :=
  if bs.all (present st.heap) = true then
    evExec P cal o ⟨st.tmps, freezeH st.heap bs⟩ fun s' => match thawO bs st.heap s'.heap with
      | some H => K ⟨s'.tmps, H⟩
      | none => none
  else none

theorem evHeld_sound {P : Program} (hP : Callable P) {cal : Cal ρ} (hcal : ∀ f, CalAt P f (cal f)) {o : Oper} {bs : List Nat} {st : St} {K : St → Option ρ} {r : ρ} (h : evHeld P cal o bs st K = some r) {M : List Place} {B : Base} {w0 : World} {a : Act} {w : World} (hr : Rel M st B w0 a w)
    {next : Act → World → Prop} {Q : Exit → Act → World → Prop} (hn : ∀ M' st' a' w', Ext M M' → K st' = some r → Rel M' st' B w0 a' w' → (∀ b ∈ bs, ∀ pl, M[b]? = some pl → pl.nil = false → w'.heap[pl.blk]? = w.heap[pl.blk]?) → (∃ v, a' = a.put o.dst v) → next a' w') : o.wp P a w next Q := by
  unfold evHeld at h
  split at h
  case isFalse => cases h
  rename_i hp
  have hr1 : Rel M ⟨st.tmps, freezeH st.heap bs⟩ (B.but M bs) w a w := ⟨hr.tmps, hr.defers, hr.heap.freeze hp, Beneath.refl _ _⟩
  refine evExec_act hP hcal h hr1 fun M' st' a' w' hE hk hr' hact => ?_
  split at hk
  · rename_i H2 ht
    refine hn M' _ a' w' hE hk ⟨hr'.tmps, hr'.defers, hr.heap.thaw hr'.heap hE hr'.below ht, hr.below.trans (but_beneath hr'.below)⟩ (fun b hb pl hpl hnil => ?_) hact
    have := List.all_eq_true.1 hp b hb
    unfold present at this
    split at this
    · rename_i o' ho
      obtain ⟨pl', hp', hok⟩ := hr.heap.obj b o' ho
      rw [hpl] at hp'; cases hp'
      exact hr'.below.block _ (objOk_lt hok hnil) fun h2 => h2.2 b hb pl hpl hnil rfl
    · cases this
  · cases hk

/-! ### the order of a region -/

section
variable {P : Program} {ops : Array Oper} {Q : Exit → Act → World → Prop}

/-- Does one operation wait for another one, at whatever remove? -/
def depB (ops : Array Oper) : Nat → Nat → Nat → Bool
  | 0, _, _ => false
  | n + 1, j, i => match ops[j]? with
    | some o => o.after.any fun e => Region.binds .any e && (e.on == i || depB ops n e.on i)
    | none => false

/-- What has come up waited for nothing that has not. -/
def Closed (ops : Array Oper) (listed : Array Bool) : Prop := ∀ j o, ops[j]? = some o → listed.getD j false = true → ∀ e ∈ o.after, Region.binds .any e = true → listed.getD e.on false = true

theorem getD_set_cases {listed : Array Bool} {i j : Nat} (h : (listed.setIfInBounds i true).getD j false = true) : i = j ∨ listed.getD j false = true := by
  by_cases hij : i = j
  · exact .inl hij
  · rw [getD_set_ne false hij] at h
    exact .inr h

theorem Closed.set {listed : Array Bool} {i : Nat} (h : Closed ops listed) (hr : i ∈ Region.ready .any ops listed) : Closed ops (listed.setIfInBounds i true) := by
  intro j o ho hj e he hb
  rcases getD_set_cases hj with rfl | hj
  · obtain ⟨_, o', ho', hall⟩ := mem_ready.1 hr
    rw [ho] at ho'; cases ho'
    exact getD_set_true (hall e he hb)
  · exact getD_set_true (h j o ho hj e he hb)

theorem dep_listed {listed : Array Bool} (hc : Closed ops listed) : ∀ {n k i : Nat}, listed.getD k false = true → depB ops n k i = true → listed.getD i false = true
  | 0, _, _, _, h => by cases h
  | n + 1, k, i, hk, h => by
    unfold depB at h
    split at h
    · rename_i o ho
      obtain ⟨e, he, hb⟩ := Array.any_eq_true'.1 h
      simp only [Bool.and_eq_true, Bool.or_eq_true, beq_iff_eq] at hb
      have h1 := hc k o ho hk e he hb.1
      rcases hb.2 with h2 | h2
      · rw [← h2]; exact h1
      · exact dep_listed hc h1 h2
    · cases h

theorem dep_ready {listed : Array Bool} (hc : Closed ops listed) {n j i : Nat} (hj : j ∈ Region.ready .any ops listed) (hi : listed.getD i false = false) : depB ops n j i = false := by
  cases n with
  | zero => rfl
  | succ n =>
    cases h : depB ops (n + 1) j i with
    | false => rfl
    | true =>
      exfalso
      unfold depB at h
      obtain ⟨_, o, ho, hall⟩ := mem_ready.1 hj
      rw [ho] at h
      obtain ⟨e, he, hb⟩ := Array.any_eq_true'.1 h
      simp only [Bool.and_eq_true, Bool.or_eq_true, beq_iff_eq] at hb
      have h1 := hall e he hb.1
      rcases hb.2 with h2 | h2
      · rw [h2, hi] at h1; cases h1
      · rw [dep_listed hc h1 h2] at hi; cases hi

/-- Whatever order is picked from here on; and blocks that were read ahead stay as they are, as long as they are to be read yet. -/
def wpAnyD (P : Program) (ops : Array Oper) (Q : Exit → Act → World → Prop) (N : Nat) : Nat → List (Nat × Nat) → Array Bool → Act → World → Prop
  | 0, _, listed, a, w => Region.ready .any ops listed = [] ∧ Q .normal a w
  | f + 1, Z, listed, a, w =>
    (Region.ready .any ops listed = [] → Q .normal a w) ∧
    ∀ j ∈ Region.ready .any ops listed, wpOp P ops Q j (fun a' w' => (∀ p ∈ Z, depB ops N j p.1 = false → w'.heap[p.2]? = w.heap[p.2]?) ∧ ∃ Z', (∀ p ∈ Z, p ∈ Z') ∧ wpAnyD P ops Q N f Z' (listed.setIfInBounds j true) a' w') a w

theorem wpAny_of_D {N : Nat} : ∀ (f : Nat) (Z : List (Nat × Nat)) (listed : Array Bool) (a : Act) (w : World), wpAnyD P ops Q N f Z listed a w → wpAny P .any ops Q f listed a w
  | 0, _, _, _, _, h => h
  | f + 1, _, _, _, _, h => ⟨h.1, fun i hi => wpOp_mono (fun a' w' h' => by obtain ⟨_, Z', _, h2⟩ := h'; exact wpAny_of_D f Z' _ a' w' h2) (h.2 i hi)⟩

theorem wpAnyD_less {N : Nat} {Z Z0 : List (Nat × Nat)} (hz : ∀ p ∈ Z0, p ∈ Z) : ∀ {f : Nat} {listed : Array Bool} {a : Act} {w : World}, wpAnyD P ops Q N f Z listed a w → wpAnyD P ops Q N f Z0 listed a w
  | 0, _, _, _, h => h
  | f + 1, _, _, _, h => ⟨h.1, fun i hi => wpOp_mono (fun a' w' h' => by
      obtain ⟨h1, Z', h2, h3⟩ := h'
      exact ⟨fun p hp => h1 p (hz p hp), Z', fun p hp => h2 p (hz p hp), h3⟩) (h.2 i hi)⟩

theorem getD_true_false {listed : Array Bool} {i : Nat} (h : listed.getD i true = false) : listed.getD i false = false := by
  rcases Nat.lt_or_ge i listed.size with h' | h'
  · simp [h'] at h ⊢; exact h
  · simp [Array.getElem?_eq_none h'] at h

/-- An operation that yields the same as long as some blocks are as they are may be taken first. -/
theorem wpAnyD_first {N i : Nat} {oi : Oper} {v : Value} {G : List Nat} {S : World → Prop} (hi : ops[i]? = some oi) (hsel : ∀ (j : Nat) (o : Oper) cs b, ops[j]? = some o → o.op ≠ .select cs b)
    (hQ : ∀ c a w, Q (.panic c) (a.put oi.dst v) w → Q (.panic c) a w) (hpres : ∀ w1 w2 : World, (∀ g ∈ G, w2.heap[g]? = w1.heap[g]?) → S w1 → S w2) :
    ∀ (fuel : Nat) (Z : List (Nat × Nat)) (listed : Array Bool) (a : Act) (w : World), (∀ g ∈ G, (i, g) ∈ Z) → Closed ops listed →
      (∀ j oj, ops[j]? = some oj → j ≠ i → listed.getD j true = false → (∀ e ∈ oj.after, Region.binds .any e = true → e.on ≠ i) → oi.apart ops oj = true) →
      i ∈ Region.ready .any ops listed → YieldsIf P ops S oi v a → S w →
      wpAnyD P ops Q N fuel Z (listed.setIfInBounds i true) (a.put oi.dst v) w → wpAnyD P ops Q N (fuel + 1) Z listed a w := by
  intro fuel
  induction fuel with
  | zero =>
    intro Z listed a w hZ hc _ hr hy hS H
    refine ⟨fun h => (by rw [h] at hr; cases hr), fun j hj => ?_⟩
    by_cases hji : j = i
    · subst hji; exact hy.wpOp hi hS ⟨fun _ _ _ => rfl, Z, fun _ h => h, H⟩
    · have := ready_mono hj hji
      rw [H.1] at this
      cases this
  | succ fuel ih =>
    intro Z listed a w hZ hc hfree hr hy hS H
    refine ⟨fun h => (by rw [h] at hr; cases hr), fun j hj => ?_⟩
    by_cases hji : j = i
    · subst hji; exact hy.wpOp hi hS ⟨fun _ _ _ => rfl, Z, fun _ h => h, H⟩
    · have h1 := H.2 j (ready_mono hj hji)
      obtain ⟨hjun, oj, hoj, hall⟩ := mem_ready.1 hj
      have hiun := (mem_ready.1 hr).1
      have hdep : depB ops N j i = false := dep_ready hc hj (getD_true_false hiun)
      have hnot : ∀ e ∈ oj.after, Region.binds .any e = true → e.on ≠ i := fun e he hb heq => by
        have h1 := hall e he hb
        rw [heq, getD_true_false hiun] at h1
        cases h1
      have h2 := wpOp_putIf hoj (hfree j oj hoj hji hjun hnot) (fun cs b => hsel i oi cs b hi) (fun cs b => hsel j oj cs b hoj) hQ hy h1
      have hfree' : ∀ k ok, ops[k]? = some ok → k ≠ i → (listed.setIfInBounds j true).getD k true = false →
          (∀ e ∈ ok.after, Region.binds .any e = true → e.on ≠ i) → oi.apart ops ok = true := fun k ok hk hki hun hno => by
        refine hfree k ok hk hki ?_ hno
        by_cases hjk : j = k
        · subst hjk; exact hjun
        · rw [getD_set_ne true hjk] at hun; exact hun
      refine wpOp_mono (fun a' w' h3 => ?_) h2
      obtain ⟨hy', hk1, Z', hZ', h4⟩ := h3
      refine ⟨hk1, Z', hZ', ih Z' (listed.setIfInBounds j true) a' w' (fun g hg => hZ' _ (hZ g hg)) (hc.set hj) hfree' (ready_mono hr (Ne.symm hji)) hy' (hpres w w' (fun g hg => hk1 _ (hZ g hg) hdep) hS) ?_⟩
      rw [Array.setIfInBounds_comm _ _ hji]
      exact h4

theorem wpAnyD_done {N : Nat} {Z : List (Nat × Nat)} {listed : Array Bool} {a : Act} {w : World} (hr : Region.ready .any ops listed = []) (h : Q .normal a w) : ∀ f, wpAnyD P ops Q N f Z listed a w
  | 0 => ⟨hr, h⟩
  | _ + 1 => ⟨fun _ => h, by rw [hr]; simp⟩

end

end Go.AE

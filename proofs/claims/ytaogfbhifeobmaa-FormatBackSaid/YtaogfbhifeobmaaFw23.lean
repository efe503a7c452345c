/- The framework AE, part 23: maps that are written out; bodies that are walked piece by piece. -/
import Derived.Test.YtaogfbhifeobmaaFw22
import Derived.Maps.Range
import Derived.DeepKeys5
set_option linter.unusedVariables false
set_option linter.unusedSimpArgs false
namespace Go.AE
open Go Go.RowKit
open Go.MapKept (Stamped stamped_push stamped_empty stamped_iff)
open Go.ChangeMaps (setBlock)

/-- A map of these entries, in whatever order. -/
def MapAt (w : World) (b : Nat) (T : List (Value × Value)) : Prop :=
  ∃ es clock, w.heap[b]? = some (.map es clock) ∧ Stamped es clock ∧ (es.toList.map fun e => (e.key, e.val)).Perm T

theorem MapAt.perm {w : World} {b : Nat} {T T' : List (Value × Value)} (h : MapAt w b T) (hp : T.Perm T') : MapAt w b T' := by
  obtain ⟨es, clock, h1, h2, h3⟩ := h
  exact ⟨es, clock, h1, h2, h3.trans hp⟩

theorem MapAt.made (w : World) : MapAt (w.alloc (.map #[] 0)) w.heap.size [] :=
  ⟨#[], 0, (MapKept.heap_alloc w _).1, stamped_empty 0, .nil⟩

theorem heap_set_same {w : World} {b : Nat} {o o' : Obj} (h : w.heap[b]? = some o) : (setBlock w b o').heap[b]? = some o' := by
  have := (Array.getElem?_eq_some_iff.1 h).1
  simp [setBlock, this]
theorem heap_set_other {w : World} {b i : Nat} {o' : Obj} (h : i ≠ b) : (setBlock w b o').heap[i]? = w.heap[i]? := by
  simp [setBlock, Array.getElem?_setIfInBounds_ne (Ne.symm h)]

theorem MapAt.ins {P : Program} {k t e : TypeId} (K : Maps.Keyed P k) (ht : P.underlying t = some (.map k e)) {w : World} {b : Nat} {T : List (Value × Value)} (h : MapAt w b T) (hT : ∀ p ∈ T, ∃ l, keyOf P k p.1 = some l) {key val : Value}
    (hkey : ∃ l, keyOf P k key = some l) (hne : ∀ p ∈ T, p.1 ≠ key) : ∃ w', (Instr.mapUpdate t (.map (some b)) key val).run P w = .ok () w' ∧ MapAt w' b ((key, val) :: T) ∧ w.grownBy w' (some b) := by
  obtain ⟨es, clock, hb, hst, hp⟩ := h
  obtain ⟨kl, hkey⟩ := hkey
  have mem : ∀ x ∈ es.toList, (x.key, x.val) ∈ T := fun x hx => hp.mem_iff.1 (List.mem_map.2 ⟨x, hx, rfl⟩)
  have hn : ∀ x ∈ es.toList, x.key ≠ key := fun x hx => hne _ (mem x hx)
  rcases K.find w hkey es.toList (fun x hx => hT _ (mem x hx)) with ⟨h1, _⟩ | ⟨j, e0, _, h2, h3⟩
  · refine ⟨setBlock w b (.map (es.push ⟨key, val, clock⟩) (clock + 1)), ?_, ⟨_, _, heap_set_same hb, stamped_push hst hn, ?_⟩, ⟨rfl, rfl, rfl, by simp [setBlock], fun i _ hi => heap_set_other fun e => hi (by rw [e])⟩⟩
    · simp [Instr.mapUpdate, run_underlying ht, MapKept.run_getObj_map hb, K.check w false hkey, h1, MapKept.run_setObj_map _ hb, Result.andThen, setBlock]
    · rw [Array.toList_push, List.map_append, List.map_singleton]
      exact (List.perm_append_singleton _ _).trans (hp.cons _)
  · exact absurd h3 (hn e0 (List.mem_of_getElem? h2))

theorem MapAt.look {P : Program} {k t e : TypeId} (K : Maps.Keyed P k) (ht : P.underlying t = some (.map k e)) {w : World} {b : Nat} {T : List (Value × Value)} (h : MapAt w b T) (hT : ∀ p ∈ T, ∃ l, keyOf P k p.1 = some l) {key z : Value}
    (hkey : ∃ l, keyOf P k key = some l) (hz : (zeroValue e).run P w = .ok z w) : (∃ x, (key, x) ∈ T ∧ (Instr.lookup t (.map (some b)) key true).run P w = .ok (.tuple #[x, .bool true]) w) ∨
      ((∀ p ∈ T, p.1 ≠ key) ∧ (Instr.lookup t (.map (some b)) key true).run P w = .ok (.tuple #[z, .bool false]) w) := by
  obtain ⟨es, clock, hb, hst, hp⟩ := h
  obtain ⟨kl, hkey⟩ := hkey
  have mem : ∀ x ∈ es.toList, (x.key, x.val) ∈ T := fun x hx => hp.mem_iff.1 (List.mem_map.2 ⟨x, hx, rfl⟩)
  rcases K.find w hkey es.toList (fun x hx => hT _ (mem x hx)) with ⟨h1, h2⟩ | ⟨j, e0, h1, h2, h3⟩
  · refine .inr ⟨fun p hpT => ?_, by simp [Instr.lookup, run_underlying ht, MapKept.run_getObj_map hb, K.check w _ hkey, h1, hz, Result.andThen]⟩
    obtain ⟨x, hx, rfl⟩ := List.mem_map.1 (hp.mem_iff.2 hpT)
    exact h2 x hx
  · refine .inl ⟨e0.val, ?_, by simp [Instr.lookup, run_underlying ht, MapKept.run_getObj_map hb, K.check w _ hkey, h1, Result.andThen]⟩
    have := mem e0 (List.mem_of_getElem? h2)
    rwa [h3] at this

theorem MapAt.kept {w w' : World} {n b : Nat} {T : List (Value × Value)} (h : MapAt w b T) (hb : Below n w w') (hn : b < n) : MapAt w' b T := by
  obtain ⟨es, clock, h1, h2, h3⟩ := h
  exact ⟨es, clock, (hb.block b hn).trans h1, h2, h3⟩

theorem Below.ofGrown {w w' : World} {n : Nat} {r : Option Nat} (h : w.grownBy w' r) (hn : n ≤ w.heap.size) (hr : ∀ b, r = some b → n ≤ b) : Below n w w' :=
  ⟨h.os, h.tape, h.output, h.size, fun i hi => h.block i (Nat.lt_of_lt_of_le hi hn) fun e => by have := hr i e.symm; omega⟩
theorem Below.alloc (w : World) (o : Obj) {n : Nat} (hn : n ≤ w.heap.size) : Below n w (w.alloc o) :=
  ⟨rfl, rfl, rfl, by simp, fun k hk => (MapKept.heap_alloc w o).2 k (Nat.lt_of_lt_of_le hk hn)⟩

/-! ### entries in whatever order -/

theorem setAll_get : ∀ (l : List Nat) (L : Array Bool) (i : Nat), (setAll l L)[i]? = if i ∈ l then L[i]?.map (fun _ => true) else L[i]?
  | [], L, i => by simp [setAll]
  | j :: l, L, i => by
    show (setAll l (L.setIfInBounds j true))[i]? = _
    rw [setAll_get l, Array.getElem?_setIfInBounds]
    by_cases hj : j = i
    · subst hj
      simp only [List.mem_cons, true_or, if_true]
      by_cases hs : j < L.size
      · simp [hs]
      · simp [hs]
    · have hj' : ¬ i = j := fun e => hj e.symm
      simp [hj, hj', List.mem_cons]

theorem setAll_congr {l l' : List Nat} (h : ∀ i, i ∈ l ↔ i ∈ l') (L : Array Bool) : setAll l L = setAll l' L := by
  apply Array.ext_getElem?
  intro i
  rw [setAll_get, setAll_get]
  by_cases hi : i ∈ l
  · rw [if_pos hi, if_pos ((h i).1 hi)]
  · rw [if_neg hi, if_neg fun q => hi ((h i).2 q)]

theorem setAll_cons (i : Nat) (l : List Nat) (L : Array Bool) : (setAll l L).setIfInBounds i true = setAll (i :: l) L := by
  apply Array.ext_getElem?
  intro j
  rw [Array.getElem?_setIfInBounds, setAll_get, setAll_get]
  by_cases hij : i = j
  · subst hij
    simp only [List.mem_cons, true_or, if_true]
    have hsz : ∀ (l : List Nat) (L : Array Bool), (setAll l L).size = L.size := by
      intro l
      induction l with
      | nil => intro L; rfl
      | cons a l ih => intro L; show (setAll l (L.setIfInBounds a true)).size = _; rw [ih]; simp
    rw [hsz]
    by_cases hs : i < L.size <;> simp [hs]
  · have hj' : ¬ j = i := fun e => hij e.symm
    simp [hij, hj', List.mem_cons]

/-- What an operation lays into the map b. -/
def insOf (a : Go.Act) (b : Nat) (o : Oper) : Option (TypeId × Nat × Value × Value) := match o.op with
  | .insert t m x v => match a.eval m with
    | .map (some b') => some (t, b', a.eval x, a.eval v)
    | _ => none
  | _ => none

/-- The operations of a list may be taken in whatever order, and nothing else till all are done. -/
def insReady (ops : Array Oper) (L : Array Bool) (S : List Nat) : Bool :=
  ((List.range ops.size).all fun i => L.getD i true || S.contains i || match ops[i]? with
    | some o => S.all fun s => o.after.any fun e => Region.binds .any e && e.on == s
    | none => true) &&
  S.all fun i => !L.getD i true && match ops[i]? with
    | some o => o.guard.isNone && o.dst.isNone && o.after.all fun e => !Region.binds .any e || L.getD e.on false
    | none => false

theorem sub_perm : ∀ {l l' : List Nat}, l.Nodup → (∀ x ∈ l, x ∈ l') → ∃ r, l'.Perm (l ++ r)
  | [], l', _, _ => ⟨l', .refl _⟩
  | x :: l, l', hn, h => by
    obtain ⟨hx, hn⟩ := List.nodup_cons.1 hn
    have h1 := List.perm_cons_erase (h x (by simp))
    obtain ⟨r, h2⟩ := sub_perm (l' := l'.erase x) hn fun y hy => (List.mem_erase_of_ne (by rintro rfl; exact hx hy)).2 (h y (by simp [hy]))
    exact ⟨r, h1.trans (h2.cons x)⟩
theorem sub_len {l l' : List Nat} (hn : l.Nodup) (h : ∀ x ∈ l, x ∈ l') : l.length ≤ l'.length := by
  obtain ⟨r, hp⟩ := sub_perm hn h
  have := hp.length_eq
  simp at this
  omega
theorem sub_eq {l l' : List Nat} (hn : l.Nodup) (h : ∀ x ∈ l, x ∈ l') (hl : l.length = l'.length) : l.Perm l' := by
  obtain ⟨r, hp⟩ := sub_perm hn h
  have := hp.length_eq
  simp at this
  have : r = [] := List.length_eq_zero_iff.1 (by omega)
  subst this
  simpa using hp.symm

theorem wpAny_ins {P : Program} {ops : Array Oper} {Q : Exit → Go.Act → World → Prop} {S : List Nat} {L : Array Bool} {ent : Nat → Value × Value} {a : Go.Act} {w0 : World} {b n0 f : Nat} {k t e : TypeId}
    (K : Maps.Keyed P k) (ht : P.underlying t = some (.map k e)) (hnd : S.Nodup) (hr : insReady ops L S = true)
    (hop : S.map (fun i => (ops[i]?).bind (insOf a b)) = S.map fun i => some (t, b, (ent i).1, (ent i).2))
    (hkey : ∀ i ∈ S, ∃ l, keyOf P k (ent i).1 = some l) (hne : ∀ i ∈ S, ∀ j ∈ S, i ≠ j → (ent i).1 ≠ (ent j).1) (hb : n0 ≤ b)
    (hfin : ∀ w, MapAt w b (S.map ent) → Below n0 w0 w → wpAny P .any ops Q f (setAll S L) a w) :
    ∀ (m : Nat) (done : List Nat) (w : World), (∀ i ∈ done, i ∈ S) → done.Nodup → done.length + m = S.length → MapAt w b (done.map ent) → Below n0 w0 w → n0 ≤ w.heap.size → wpAny P .any ops Q (f + m) (setAll done L) a w := by
  simp only [insReady, Bool.and_eq_true, List.all_eq_true, List.mem_range] at hr
  obtain ⟨hr1, hr2⟩ := hr
  intro m
  induction m with
  | zero =>
    intro done w hsub hdn hlen hm hbel _
    have hp : done.Perm S := sub_eq hdn hsub (by omega)
    rw [Nat.add_zero, setAll_congr (l' := S) (fun i => hp.mem_iff) L]
    exact hfin w (hm.perm (hp.map ent)) hbel
  | succ m ih =>
    intro done w hsub hdn hlen hm hbel hsz
    have step : ∀ i ∈ Region.ready .any ops (setAll done L), i ∈ S ∧ i ∉ done := by
      intro i hi
      rw [mem_ready] at hi
      obtain ⟨h0, o, ho, hall⟩ := hi
      have hlt := (Array.getElem?_eq_some_iff.1 ho).1
      have hu : L.getD i true = false ∧ i ∉ done := by
        simp only [Array.getD_eq_getD_getElem?, setAll_get] at h0 ⊢
        by_cases hd : i ∈ done
        · rw [if_pos hd] at h0
          cases hL : L[i]? <;> simp [hL] at h0
        · rw [if_neg hd] at h0
          exact ⟨h0, hd⟩
      refine ⟨?_, hu.2⟩
      have h1 := hr1 i hlt
      rw [hu.1] at h1
      simp only [Bool.false_or, Bool.or_eq_true, List.contains_iff_mem, ho] at h1
      rcases h1 with h1 | h1
      · exact h1
      · exfalso
        simp only [List.all_eq_true] at h1
        have hS : ∀ s ∈ S, s ∈ done := by
          intro s hs
          obtain ⟨e, he, heq⟩ := Array.any_eq_true'.1 (h1 s hs)
          simp only [Bool.and_eq_true, beq_iff_eq] at heq
          have h2 := hall e he heq.1
          rw [heq.2] at h2
          simp only [Array.getD_eq_getD_getElem?, setAll_get] at h2
          by_cases hd : s ∈ done
          · exact hd
          · rw [if_neg hd] at h2
            have h3 := hr2 s hs
            simp only [Bool.and_eq_true, Bool.not_eq_true', Array.getD_eq_getD_getElem?] at h3
            cases hL : L[s]? with
            | none => rw [hL] at h2; simp at h2
            | some x => rw [hL] at h2 h3; simp at h2 h3; rw [h2] at h3; simp at h3
        have : S.length ≤ done.length := sub_len hnd hS
        omega
    have some_ready : ∃ i, i ∈ Region.ready .any ops (setAll done L) := by
      have : ∃ i ∈ S, i ∉ done := by
        apply Classical.byContradiction
        intro hno
        have hS : ∀ s ∈ S, s ∈ done := fun s hs => Classical.byContradiction fun h => hno ⟨s, hs, h⟩
        have := sub_len hnd hS
        omega
      obtain ⟨i, hi, hd⟩ := this
      have h3 := hr2 i hi
      simp only [Bool.and_eq_true, Bool.not_eq_true'] at h3
      obtain ⟨h3, h4⟩ := h3
      split at h4
      · rename_i o ho
        simp only [Bool.and_eq_true] at h4
        refine ⟨i, mem_ready.2 ⟨?_, o, ho, fun e he hbd => ?_⟩⟩
        · simp only [Array.getD_eq_getD_getElem?, setAll_get, if_neg hd] at h3 ⊢
          exact h3
        · have h5 := Array.all_eq_true_iff_forall_mem.1 h4.2 e he
          simp only [hbd, Bool.not_true, Bool.false_or, Array.getD_eq_getD_getElem?] at h5
          simp only [Array.getD_eq_getD_getElem?, setAll_get]
          cases hL : L[e.on]? with
          | none => rw [hL] at h5; simp at h5
          | some x => rw [hL] at h5; simp at h5; subst h5; split <;> rfl
      · cases h4
    refine ⟨fun h => ?_, fun i hi => ?_⟩
    · obtain ⟨i, hi⟩ := some_ready
      rw [h] at hi
      cases hi
    · obtain ⟨hiS, hid⟩ := step i hi
      have h3 := hr2 i hiS
      simp only [Bool.and_eq_true, Bool.not_eq_true'] at h3
      obtain ⟨_, h4⟩ := h3
      split at h4
      case h_2 => cases h4
      rename_i o ho
      simp only [Bool.and_eq_true, Option.isNone_iff_eq_none] at h4
      obtain ⟨⟨hg, hd⟩, _⟩ := h4
      have hio : insOf a b o = some (t, b, (ent i).1, (ent i).2) := by
        have := List.map_inj_left.1 hop i hiS
        rwa [ho] at this
      unfold wpOp
      rw [ho]
      simp only [Region.wanted, hg, if_true]
      left
      obtain ⟨w', h5, h6, h7⟩ := MapAt.ins K ht hm (fun p hp => by obtain ⟨j, hj, rfl⟩ := List.mem_map.1 hp; exact hkey j (hsub j hj)) (val := (ent i).2) (hkey i hiS) (fun p hp => by
        obtain ⟨j, hj, rfl⟩ := List.mem_map.1 hp
        exact hne j (hsub j hj) i hiS (fun e => hid (e ▸ hj)))
      unfold insOf at hio
      split at hio
      case h_2 => cases hio
      rename_i t' m' x' v' hop'
      split at hio
      case h_2 => cases hio
      rename_i b' hm'
      simp only [Option.some.injEq, Prod.mk.injEq] at hio
      obtain ⟨rfl, rfl, hx, hv⟩ := hio
      have hrun : (execOp a.eval o).run P w = .ok .skip w' := by
        simp [execOp, hop', hm', hx, hv, h5, Result.andThen]
      unfold Oper.wp
      rw [hrun, Oper.upon_skip, hd, setAll_cons]
      exact ih (i :: done) w' (fun j hj => (List.mem_cons.1 hj).elim (fun e => e ▸ hiS) (hsub j)) (List.nodup_cons.2 ⟨hid, hdn⟩) (by simp; omega) h6 (hbel.trans (Below.ofGrown h7 hsz (fun c hc => by cases hc; exact hb))) (Nat.le_trans hsz h7.size)

/-! ### bodies piece by piece -/

/-- The first n parts of a code, and the rest. -/
def cutAt : Nat → Code → Code × Code
  | 0, c => (.skip, c)
  | n + 1, .seq a b => (.seq a (cutAt n b).1, (cutAt n b).2)
  | _ + 1, c => (c, .skip)

def evPre {ρ : Type} (P : Program) (cal : Cal ρ) (qcal : QCal ρ) : Nat → Code → St → (Exit → St → Option ρ) → Option ρ
  | 0, _, st, K => K .normal st
  | n + 1, .seq x y, st, K => evCode P cal qcal (fun _ => none) x st fun e st' => match e with
    | .normal => evPre P cal qcal n y st' K
    | e => K e st'
  | _ + 1, _, _, _ => none
def rest : Nat → Code → Code
  | 0, c => c
  | n + 1, .seq _ y => rest n y
  | _ + 1, c => c

theorem evPre_sound {ρ : Type} {P : Program} (hP : Callable P) {cal : Cal ρ} (hcal : ∀ f, CalAt P f (cal f)) {qcal : QCal ρ} (hq : ∀ f, QCalAt P f (qcal f)) {B : Base} {w0 : World} {Q : Exit → Go.Act → World → Prop} : ∀ (n : Nat) (c : Code) {st : St} {K : Exit → St → Option ρ} {r : ρ} {M : List Place} {a : Go.Act} {w : World},
    evPre P cal qcal n c st K = some r → Rel M st B w0 a w → (∀ e M' st' a' w', K e st' = some r → Rel M' st' B w0 a' w' → Exit.then (fun a w => (rest n c).wp P Q a w) Q e a' w') → c.wp P Q a w
  | 0, c, st, K, r, M, a, w, h, hr, hn => hn .normal M st a w h hr
  | n + 1, .seq x y, st, K, r, M, a, w, h, hr, hn => by
    refine wp_seq (evCode_sound hP hcal hq x (fun _ _ _ h => by cases h) st _ h M a w _ hr fun e M' st' a' w' (_ : ExtO true M M') hk hr' => ?_)
    cases e with
    | normal => exact evPre_sound hP hcal hq n y hk hr' hn
    | exit id => exact hn (.exit id) M' st' a' w' hk hr'
    | goto l => exact hn (.goto l) M' st' a' w' hk hr'
    | ret => exact hn .ret M' st' a' w' hk hr'
    | panic ch => exact hn (.panic ch) M' st' a' w' hk hr'
    | outgrown => exact hn .outgrown M' st' a' w' hk hr'
  | n + 1, .skip, st, K, r, M, a, w, h, hr, hn => by cases h
  | n + 1, .region _ _ _, st, K, r, M, a, w, h, hr, hn => by cases h
  | n + 1, .cond _ _ _, st, K, r, M, a, w, h, hr, hn => by cases h
  | n + 1, .block _ _, st, K, r, M, a, w, h, hr, hn => by cases h
  | n + 1, .loop _, st, K, r, M, a, w, h, hr, hn => by cases h
  | n + 1, .exit _, st, K, r, M, a, w, h, hr, hn => by cases h
  | n + 1, .ret, st, K, r, M, a, w, h, hr, hn => by cases h
  | n + 1, .label _, st, K, r, M, a, w, h, hr, hn => by cases h
  | n + 1, .goto _, st, K, r, M, a, w, h, hr, hn => by cases h

/-! ### states of a body that knows of no memory -/

def intV : AV → Option Int
  | .int .i64 _ x => some x
  | _ => none
def intsV : List AV → Option (List Int)
  | [] => some []
  | x :: r => match intV x, intsV r with
    | some n, some l => some (n :: l)
    | _, _ => none
def intArr (l : List Int) : Array Value := (l.map fun x => Value.int .i64 x).toArray

theorem intsV_has {M : List Place} : ∀ {xs : List AV} {vs : List Value} {l : List Int}, intsV xs = some l → RelL M xs vs → ∀ x ∈ l, IntKind.i64.has x
  | [], vs, l, h, hr => by
    simp only [intsV, Option.some.injEq] at h
    subst h
    simp
  | x :: xs, vs, l, h, hr => by
    simp only [intsV] at h
    split at h
    · rename_i n l' h1 h2
      cases h
      obtain ⟨v, r, rfl, hx, hr'⟩ := RelL_cons.1 hr
      intro y hy
      rcases List.mem_cons.1 hy with rfl | hy
      · unfold intV at h1
        split at h1
        · cases h1
          exact (relV_int hx).2.1
        · cases h1
      · exact intsV_has h2 hr' y hy
    · cases h
theorem intsV_rel {M : List Place} : ∀ {xs : List AV} {vs : List Value} {l : List Int}, intsV xs = some l → RelL M xs vs → vs = l.map (Value.int .i64)
  | [], vs, l, h, hr => by
    simp only [intsV, Option.some.injEq] at h
    subst h
    rw [RelL_nil] at hr
    exact hr
  | x :: xs, vs, l, h, hr => by
    simp only [intsV] at h
    split at h
    · rename_i n l' h1 h2
      cases h
      obtain ⟨v, r, rfl, hx, hr'⟩ := RelL_cons.1 hr
      rw [intsV_rel h2 hr']
      unfold intV at h1
      split at h1
      · cases h1
        rw [(relV_int hx).1]
        rfl
      · cases h1
    · cases h

/-- A slot that is kept: an integer; or an iterator. -/
def slotV : Bool → AV → Option Int
  | false, x => intV x
  | true, .itr b => some (b : Int)
  | true, _ => none
def slotVal : Bool → Int → Value
  | false, x => .int .i64 x
  | true, x => .pointer (some ⟨x.toNat, 0, none⟩)
def slotsV (ts : List AV) : List (Nat × Bool) → Option (List Int)
  | [] => some []
  | s :: r => match slotV s.2 (ts.getD s.1 .undef), slotsV ts r with
    | some n, some l => some (n :: l)
    | _, _ => none

/-- What is told at a body's end, or at the end of a piece: the results; what is in these slots. -/
def endK (P : Program) (fn : Func) (slots : List (Nat × Bool)) : Exit → St → Option (List Int ⊕ List Int) := fun e st => match e with
  | .ret => match aresL P st fn.results.toList with
    | some l => match intsV l with
      | some l => some (.inl l)
      | none => none
    | none => none
  | .normal => match slotsV st.tmps slots with
    | some l => some (.inr l)
    | none => none
  | _ => none

theorem relH_fresh (w : World) : RelH M0 H0 (Base.fresh w.heap.size) w := by
  have h : RelH [] [] (Base.fresh w.heap.size) w := ⟨rfl, fun k hk => ⟨hk, trivial⟩, fun i o h => (by simp at h), fun i j oi oj pi pj h => (by simp at h), fun i o pl k h => (by simp at h), fun i o pl h => (by simp at h), fun k ob h => absurd h FzAt.nil, fun i o pl h => (by simp at h), fun k hk h => absurd h (Nat.not_lt_of_le hk)⟩
  exact h.addNone _ (fun k ob h => by cases h)

theorem rel_fresh {ts : List AV} {a : Go.Act} (hT : RelT M0 ts a.tmps) (hd : a.defers = []) (w : World) : Rel M0 ⟨ts, H0⟩ (Base.fresh w.heap.size) w a w := ⟨hT, hd, relH_fresh w, Beneath.refl _ _⟩

/-- What is known at a piece's end. -/
def EndAt (P : Program) (fn : Func) (slots : List (Nat × Bool)) (n : Nat) (w : World) (r : List Int ⊕ List Int) (e : Exit) (a' : Go.Act) (w' : World) : Prop :=
  Below w.heap.size w w' ∧ a'.defers = [] ∧ a'.tmps.size = n ∧
  match e with
  | .ret => ∃ l, r = .inl l ∧ (∀ x ∈ l, IntKind.i64.has x) ∧ (results fn a'.tmps).run P w' = .ok (retV (intArr l)) w'
  | .normal => ∃ l, r = .inr l ∧ l.length = slots.length ∧ ∀ (j : Nat) (x : Int) (t : Nat × Bool), l[j]? = some x → slots[j]? = some t → a'.tmps.getD t.1 undef = slotVal t.2 x ∧ (t.2 = false → IntKind.i64.has x)
  | _ => False

theorem slotsV_get {M : List Place} {a : Array Value} {ts : List AV} (hT : RelT M ts a) : ∀ {slots : List (Nat × Bool)} {l : List Int}, slotsV ts slots = some l → l.length = slots.length ∧ ∀ (j : Nat) (x : Int) (t : Nat × Bool), l[j]? = some x → slots[j]? = some t → a.getD t.1 undef = slotVal t.2 x ∧ (t.2 = false → IntKind.i64.has x)
  | [], l, h => by
    simp only [slotsV, Option.some.injEq] at h
    subst h
    exact ⟨rfl, fun j x t h => by simp at h⟩
  | s :: slots, l, h => by
    simp only [slotsV] at h
    split at h
    · rename_i n l' h1 h2
      cases h
      obtain ⟨g1, g2⟩ := slotsV_get hT h2
      refine ⟨by simp [g1], fun j x t hx ht => ?_⟩
      cases j with
      | zero =>
        simp at hx ht
        subst hx
        subst ht
        have hv := hT.2 s.1
        obtain ⟨t, b⟩ := s
        cases b with
        | false =>
          simp only [slotV, intV] at h1
          split at h1
          · rename_i k x hq
            cases h1
            rw [hq] at hv
            exact ⟨(relV_int hv).1, fun _ => (relV_int hv).2.1⟩
          · cases h1
        | true =>
          cases hq : ts.getD t .undef <;> simp only [hq, slotV, reduceCtorEq, Option.some.injEq] at h1
          subst h1
          rw [hq] at hv
          simp only [RelV, RelX] at hv
          exact ⟨by simpa [slotVal] using hv, fun h => by cases h⟩
      | succ j => exact g2 j x t (by simpa using hx) (by simpa using ht)
    · cases h

theorem endK_at {P : Program} {fn : Func} {slots : List (Nat × Bool)} {n : Nat} {w : World} {r : List Int ⊕ List Int} {e : Exit} {st : St} (h : endK P fn slots e st = some r) {M : List Place} {a' : Go.Act} {w' : World} (hr : Rel M st (Base.fresh w.heap.size) w a' w') (hn : a'.tmps.size = n) : EndAt P fn slots n w r e a' w' := by
  refine ⟨hr.below.below', hr.defers, hn, ?_⟩
  unfold endK at h
  split at h
  · split at h
    · rename_i l hl
      split at h
      · rename_i l' hl'
        cases h
        obtain ⟨vs, h1, h2⟩ := results_run (fn := fn) hr.tmps hr.heap hl
        refine ⟨l', rfl, intsV_has hl' h1, ?_⟩
        have : vs = intArr l' := by
          apply Array.toList_inj.1
          rw [intsV_rel hl' h1]
          simp [intArr]
        rw [h2, this]
      · cases h
    · cases h
  · split at h
    · rename_i l hl
      cases h
      exact ⟨l, rfl, slotsV_get hr.tmps hl⟩
    · cases h
  · cases h

abbrev cal0 (P : Program) : Cal (List Int ⊕ List Int) := evFn P (emptyEnv _) 12
abbrev qcal0 : QCal (List Int ⊕ List Int) := qof (emptyEnv _)

theorem piece {P : Program} (hP : Callable P) {fn : Func} {slots : List (Nat × Bool)} {n : Nat} {c : Code} {ts : List AV} {r : List Int ⊕ List Int} (h : evPre P (cal0 P) qcal0 n c ⟨ts, H0⟩ (fun e st => if st.tmps.length = ts.length then endK P fn slots e st else none) = some r) {a : Go.Act} {w : World} (hT : RelT M0 ts a.tmps) (hd : a.defers = [])
    {Q : Exit → Go.Act → World → Prop} (hn : ∀ e a' w', EndAt P fn slots ts.length w r e a' w' → Exit.then (fun a w => (rest n c).wp P Q a w) Q e a' w') : c.wp P Q a w := by
  have e0 := emptyEnv_ok P (List Int ⊕ List Int)
  refine evPre_sound hP (evFn_ok hP e0 12) (qof_ok e0) n c h (rel_fresh hT hd w) fun e M' st' a' w' hk hr => hn e a' w' ?_
  split at hk
  · rename_i hlen
    exact endK_at hk hr (by rw [← hlen]; exact hr.tmps.1.symm)
  · cases hk

theorem piece1 {P : Program} (hP : Callable P) {fn : Func} {slots : List (Nat × Bool)} {c : Code} {ts : List AV} {r : List Int ⊕ List Int} (h : evCode P (cal0 P) qcal0 (fun _ => none) c ⟨ts, H0⟩ (fun e st => if st.tmps.length = ts.length then endK P fn slots e st else none) = some r) {a : Go.Act} {w : World} (hT : RelT M0 ts a.tmps) (hd : a.defers = [])
    {Q : Exit → Go.Act → World → Prop} (hn : ∀ e a' w', EndAt P fn slots ts.length w r e a' w' → Q e a' w') : c.wp P Q a w := by
  have e0 := emptyEnv_ok P (List Int ⊕ List Int)
  refine evCode_sound hP (evFn_ok hP e0 12) (qof_ok e0) c (fun _ _ _ h => by cases h) _ _ h M0 a w Q (rel_fresh hT hd w) fun e M' st' a' w' (_ : ExtO true M0 M') hk hr => hn e a' w' ?_
  split at hk
  · rename_i hlen
    exact endK_at hk hr (by rw [← hlen]; exact hr.tmps.1.symm)
  · cases hk

theorem evList_app {ρ : Type} {P : Program} (hP : Callable P) {cal : Cal ρ} (hcal : ∀ f, CalAt P f (cal f)) {ops : Array Oper} {Q : Exit → Go.Act → World → Prop} {K : St → Option ρ} {r : ρ} {B : Base} {w0 : World} {l2 : List Oper} : ∀ {l : List Oper} {st : St} {M : List Place} {a : Go.Act} {w : World},
    evList P cal ops l st K = some r → Rel M st B w0 a w → (∀ M' st' a' w', K st' = some r → Rel M' st' B w0 a' w' → wpList P ops Q l2 a' w') → wpList P ops Q (l ++ l2) a w
  | [], st, M, a, w, h, hr, hn => hn M st a w h hr
  | o :: l, st, M, a, w, h, hr, hn => by
    show wpList P ops Q (o :: (l ++ l2)) a w
    unfold wpList
    rcases guarded_sound h hr.tmps with ⟨hw, st', h', ht, hh⟩ | ⟨hw, st', h', ht, hh⟩
    · rw [if_pos hw]
      have hr' : Rel M st' B w0 a w := ⟨ht, hr.defers, by rw [hh]; exact hr.heap, hr.below⟩
      exact .inl (evExec_sound hP hcal h' hr' fun M' st2 a' w' hE hk hr2 => evList_app hP hcal hk hr2 hn)
    · rw [if_neg (by rw [hw]; simp)]
      have hr' : Rel M st' B w0 a w := ⟨ht, hr.defers, by rw [hh]; exact hr.heap, hr.below⟩
      exact evList_app hP hcal h' (hr'.put (relV_skip M) o.dst) hn

/-- Some operations of a region, and then what is behind them. -/
theorem pieceL {P : Program} (hP : Callable P) {ops : Array Oper} {l l2 : List Oper} {ts : List AV} {picks : List Nat} {xs : List AV} (h : evList P (evFn P (emptyEnv (List AV)) 12) ops l ⟨ts, H0⟩ (fun st => if st.tmps.length = ts.length then some (picks.map fun t => st.tmps.getD t .undef) else none) = some xs) {a : Go.Act} {w : World} (hT : RelT M0 ts a.tmps) (hd : a.defers = [])
    {Q : Exit → Go.Act → World → Prop} (hn : ∀ M' a' w', (∀ (j : Nat) (t : Nat) (x : AV), picks[j]? = some t → xs[j]? = some x → RelV M' x (a'.tmps.getD t undef)) → a'.tmps.size = ts.length → a'.defers = [] → Below w.heap.size w w' → wpList P ops Q l2 a' w') : wpList P ops Q (l ++ l2) a w := by
  refine evList_app hP (evFn_ok hP (emptyEnv_ok P (List AV)) 12) h (rel_fresh hT hd w) fun M' st' a' w' hk hr => ?_
  split at hk
  · rename_i hlen
    cases hk
    refine hn M' a' w' (fun j t x ht hx => ?_) (by rw [← hlen]; exact hr.tmps.1.symm) hr.defers hr.below.below'
    rw [List.getElem?_map, ht] at hx
    cases hx
    exact hr.tmps.2 t
  · cases hk

theorem wpl {P : Program} {ops : Array Oper} {Q : Exit → Go.Act → World → Prop} {r : List Oper} {o : Oper} {a : Go.Act} {w w' : World} {v : Value} (hg : o.guard = none) (hrun : (execOp a.eval o).run P w = .ok (.value v) w') (h : wpList P ops Q r (a.put o.dst v) w') : wpList P ops Q (o :: r) a w := by
  unfold wpList
  rw [if_pos (by simp [Region.wanted, hg])]
  refine .inl ?_
  unfold Oper.wp
  rw [hrun, Oper.upon_value]
  exact h
theorem wpl_skip {P : Program} {ops : Array Oper} {Q : Exit → Go.Act → World → Prop} {r : List Oper} {o : Oper} {a : Go.Act} {w w' : World} (hg : o.guard = none) (hd : o.dst = none) (hrun : (execOp a.eval o).run P w = .ok .skip w') (h : wpList P ops Q r a w') : wpList P ops Q (o :: r) a w := by
  unfold wpList
  rw [if_pos (by simp [Region.wanted, hg])]
  refine .inl ?_
  unfold Oper.wp
  rw [hrun, Oper.upon_skip, hd]
  exact h
theorem wpl_enter {P : Program} {ops : Array Oper} {Q : Exit → Go.Act → World → Prop} {r : List Oper} {o : Oper} {a : Go.Act} {w : World} {f : FuncId} {args : Array Value} (hg : o.guard = none) (hrun : (execOp a.eval o).run P w = .ok (.enter f args) w)
    (h : Calls P f args w fun e w' => ∃ v, e = .returned v ∧ wpList P ops Q r (a.put o.dst v) w') : wpList P ops Q (o :: r) a w := by
  unfold wpList
  rw [if_pos (by simp [Region.wanted, hg])]
  refine .inl ?_
  unfold Oper.wp
  rw [hrun, Oper.upon_enter]
  refine h.mono ?_
  rintro e w' ⟨v, rfl, h⟩
  exact h

/-- What is known of some slots. -/
def pickT (n : Nat) (l : List (Nat × AV)) : List AV := l.foldl (fun ts p => ts.set p.1 p.2) (List.replicate n .undef)
theorem pickT_len (n : Nat) (l : List (Nat × AV)) : (pickT n l).length = n := by
  unfold pickT
  suffices ∀ (l : List (Nat × AV)) (ts : List AV), (l.foldl (fun ts p => ts.set p.1 p.2) ts).length = ts.length by rw [this]; simp
  intro l
  induction l with
  | nil => intro ts; rfl
  | cons p l ih => intro ts; rw [List.foldl_cons, ih]; simp
theorem Below.weak {n m : Nat} {w w' : World} (h : Below n w w') (hm : m ≤ n) : Below m w w' := ⟨h.os, h.tape, h.output, h.size, fun k hk => h.block k (Nat.lt_of_lt_of_le hk hm)⟩
theorem relT_pick {n : Nat} {a : Array Value} (hn : a.size = n) {l : List (Nat × AV)} (h : ∀ p ∈ l, RelV M0 p.2 (a.getD p.1 undef)) : RelT M0 (pickT n l) a := by
  have h0 : RelT M0 (List.replicate n .undef) a := ⟨by simp [hn], fun t => by
    have : (List.replicate n AV.undef).getD t .undef = .undef := by
      rw [List.getD_eq_getElem?_getD, List.getElem?_replicate]
      split <;> rfl
    rw [this]
    exact relV_undef _ _⟩
  unfold pickT
  suffices ∀ (l : List (Nat × AV)) (ts : List AV), (∀ p ∈ l, RelV M0 p.2 (a.getD p.1 undef)) → RelT M0 ts a → RelT M0 (l.foldl (fun ts p => ts.set p.1 p.2) ts) a from this l _ h h0
  intro l
  induction l with
  | nil => intro ts _ h; exact h
  | cons p l ih =>
    intro ts hl hT
    refine ih _ (fun q hq => hl q (List.mem_cons_of_mem _ hq)) ?_
    have h1 := hT.put (hl p (by simp)) p.1
    have h2 := congrArg Go.Act.tmps (put_self (a := ⟨a, []⟩) (d := p.1))
    simp only [Go.Act.put] at h2
    rw [h2] at h1
    exact h1

theorem put_get {a : Go.Act} {d : Nat} {v : Value} (h : d < a.tmps.size) : (a.put (some d) v).tmps.getD d undef = v := by simp [Go.Act.put, h]
theorem put_get_ne {a : Go.Act} {d t : Nat} {v : Value} (h : t ≠ d) : (a.put (some d) v).tmps.getD t undef = a.tmps.getD t undef := by simp [Go.Act.put, Array.getElem?_setIfInBounds_ne (Ne.symm h)]
theorem put_size {a : Go.Act} {d : Option Nat} {v : Value} : (a.put d v).tmps.size = a.tmps.size := by cases d <;> simp [Go.Act.put]
theorem put_defers {a : Go.Act} {d : Option Nat} {v : Value} : (a.put d v).defers = a.defers := by cases d <;> rfl

theorem relV_int_mk {x : Int} (h : IntKind.i64.has x) : RelV M0 (.int .i64 none x) (.int .i64 x) := RelX_int.2 ⟨rfl, h, fun m hm => by cases hm⟩

/-- Some operations of a region, and then a code. -/
theorem pieceLC {P : Program} (hP : Callable P) {fn : Func} {slots : List (Nat × Bool)} {ops : Array Oper} {l : List Oper} {c : Code} {ts : List AV} {r : List Int ⊕ List Int}
    (h : evList P (cal0 P) ops l ⟨ts, H0⟩ (fun st => evCode P (cal0 P) qcal0 (fun _ => none) c st (fun e st => if st.tmps.length = ts.length then endK P fn slots e st else none)) = some r) {a : Go.Act} {w : World} (hT : RelT M0 ts a.tmps) (hd : a.defers = [])
    {Q : Exit → Go.Act → World → Prop} (hn : ∀ e a' w', EndAt P fn slots ts.length w r e a' w' → Q e a' w') : wpList P ops (Exit.then (c.wp P Q) Q) l a w := by
  have e0 := emptyEnv_ok P (List Int ⊕ List Int)
  refine evList_sound hP (evFn_ok hP e0 12) h (rel_fresh hT hd w) fun M1 st1 a1 w1 _ hk hr => ?_
  refine evCode_sound hP (evFn_ok hP e0 12) (qof_ok e0) c (fun _ _ _ h => by cases h) _ _ hk M1 a1 w1 Q hr fun e M' st' a' w' (_ : ExtO true M1 M') hk hr' => hn e a' w' ?_
  split at hk
  · rename_i hlen
    exact endK_at hk hr' (by rw [← hlen]; exact hr'.tmps.1.symm)
  · cases hk

theorem relOut_ints {B : Base} {w : World} {x y : Int} (hx : IntKind.i64.has x) (hy : IntKind.i64.has y) : RelOut B w [.ty (.int .i64), .ty (.int .i64)] (x, y, ()) [.int .i64 x, .int .i64 y] := by
  refine ⟨[], [], News.nil B w, rfl, fun k ob h => FzAt.nil h, fun k ob h => absurd h FzAt.nil, fun i pi oi h => (by simp at h), fun M => ?_, fun M pin c h => (by simp [upsO] at h)⟩
  exact RelL_cons.2 ⟨_, _, rfl, RelX_int.2 ⟨rfl, hx, fun m hm => by cases hm⟩, RelL_cons.2 ⟨_, _, rfl, RelX_int.2 ⟨rfl, hy, fun m hm => by cases hm⟩, RelL_nil.2 rfl⟩⟩

/-- A contract is what is told. -/
theorem fnSpec2 {P : Program} {f : FuncId} {n : Nat} {ins : List Item} {F : D (tysI ins []) → Option (Int × Int × Unit)}
    (h : ∀ d x y M (vs : Array Value) w, RelL M (bldS n ins d).tmps vs.toList → F d = some (x, y, ()) → Calls P f vs w fun e w' => e = .returned (retV (intArr [x, y])) ∧ (∀ z ∈ [x, y], IntKind.i64.has z) ∧ Below w.heap.size w w') : FnSpec P f n ins [.ty (.int .i64), .ty (.int .i64)] F := by
  rintro d ⟨x, y, ⟨⟩⟩ hd M B w vs hl hH
  refine (h d x y M vs w hl hd).mono ?_
  rintro e w' ⟨rfl, hz, hb⟩
  exact ⟨intArr [x, y], rfl, Beneath.of hb, relOut_ints (hz x (by simp)) (hz y (by simp))⟩

/-! ### entries in their order -/

theorem wpList_inss {P : Program} {ops : Array Oper} {Q : Exit → Go.Act → World → Prop} {r : List Oper} {a : Go.Act} {b n0 : Nat} {k t e : TypeId} (K : Maps.Keyed P k) (ht : P.underlying t = some (.map k e)) (hb : n0 ≤ b) {w0 : World} : ∀ {l : List Oper} {T ents : List (Value × Value)} {w : World},
    (l.all fun o => o.guard.isNone && o.dst.isNone) = true → l.map (insOf a b) = ents.map (fun p => some (t, b, p.1, p.2)) → (∀ p ∈ ents, ∃ l, keyOf P k p.1 = some l) → (∀ p ∈ T, ∃ l, keyOf P k p.1 = some l) → (ents ++ T).Pairwise (fun p q => p.1 ≠ q.1) → MapAt w b T → Below n0 w0 w → n0 ≤ w.heap.size →
    (∀ w', MapAt w' b (ents.reverse ++ T) → Below n0 w0 w' → n0 ≤ w'.heap.size → wpList P ops Q r a w') → wpList P ops Q (l ++ r) a w
  | [], T, ents, w, _, hm, _, _, _, hw, hbl, hs, hn => by
    cases ents with
    | nil => exact hn w hw hbl hs
    | cons _ _ => simp at hm
  | o :: l, T, ents, w, hg, hm, hk, hkT, hp, hw, hbl, hs, hn => by
    cases ents with
    | nil => simp at hm
    | cons p ents =>
      simp only [List.map_cons, List.cons.injEq] at hm
      obtain ⟨ho, hm⟩ := hm
      simp only [List.all_cons, Bool.and_eq_true, Option.isNone_iff_eq_none] at hg
      obtain ⟨⟨hg1, hg2⟩, hg⟩ := hg
      rw [List.cons_append, List.pairwise_cons] at hp
      obtain ⟨w', h1, h2, h3⟩ := MapAt.ins K ht hw hkT (val := p.2) (hk p (by simp)) (fun q hq e => hp.1 q (by simp [hq]) e.symm)
      unfold insOf at ho
      split at ho
      case h_2 => cases ho
      rename_i t' m' x' v' hop
      split at ho
      case h_2 => cases ho
      rename_i b' hm'
      simp only [Option.some.injEq, Prod.mk.injEq] at ho
      obtain ⟨rfl, rfl, hx, hv⟩ := ho
      have hrun : (execOp a.eval o).run P w = .ok .skip w' := by
        simp [execOp, hop, hm', hx, hv, h1, Result.andThen]
      refine wpl_skip hg1 hg2 hrun (wpList_inss K ht hb (T := p :: T) (ents := ents) (by simpa using hg) hm (fun q hq => hk q (by simp [hq])) (fun q hq => (List.mem_cons.1 hq).elim (fun e => e ▸ hk p (by simp)) (hkT q)) ?_ h2 (hbl.trans (Below.ofGrown h3 hs (fun c hc => by cases hc; exact hb))) (Nat.le_trans hs h3.size) ?_)
      · have hp1 : (p :: (ents ++ T)).Pairwise (fun a b : Value × Value => a.1 ≠ b.1) := List.pairwise_cons.2 hp
        exact hp1.perm (List.perm_middle.symm) (fun h e => h e.symm)
      · intro w2 g1 g2 g3
        refine hn w2 ?_ g2 g3
        simpa using g1

end Go.AE

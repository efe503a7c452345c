/- The framework AE, part 12: append and copy. -/
import Derived.Test.YtaogfbhifeobmaaFw11
set_option linter.unusedVariables false
set_option linter.unusedSimpArgs false
namespace Go.AE
open Go Go.RowKit

/-- What a slice holds. -/
def wholeC (H : Heap) : AV → Option Cont
  | .sl b off len sz c => match H[b]? with
    | some (some o) => if c = .own ∨ c = .whole then some o.c else
        match o.c with
        | .row k l => some (.row k ((l.drop off).take (mul1 len sz)))
        | .segs [.is k n l] => if off = 0 ∧ len * sz = n then some (.row k l) else some (.row k ((l.drop off).take (mul1 len sz)))
        | _ => none
    | _ => none
  | .nils => some (.segs [])
  | _ => none

/-- How long it is. -/
def slLen : AV → Nat
  | .sl _ _ len _ _ => len
  | _ => 0

/-- The cells of a slice lie so in memory. -/
def Lies (w : World) (v : Value) (len sz : Nat) (us : List Value) : Prop :=
  us.length = len * sz ∧ ∃ A cap, v = .slice A len cap ∧ len ≤ cap ∧ (len * sz = 0 ∨ ∃ blk o cs el fz, A = some ⟨blk, o, none⟩ ∧ w.heap[blk]? = some (.cells cs el fz) ∧ o + len * sz ≤ cs.size ∧ us = (cs.toList.drop o).take (len * sz))

theorem wholeC_rel {M : List Place} {H : Heap} {B : Base} {w : World} (r : RelH M H B w) {x : AV} {v : Value} (hx : RelV M x v) {ct : Cont} (h : wholeC H x = some ct) {sz : Nat} (hsz : ∀ b off len s c, x = .sl b off len s c → s = sz) :
    ∃ us, RelO M ct us ∧ Lies w v (slLen x) sz us := by
  unfold wholeC at h
  split at h
  · rename_i b off len s c
    have hs := hsz _ _ _ _ _ rfl
    subst hs
    simp only [RelV, RelX] at hx
    obtain ⟨pl, A, cap, hpl, hv, hb, hcap, hnil, hnn, hfull, hown, hwhole, hlen⟩ := hx
    have hv : v = .slice A len cap := by simpa using hv
    split at h
    · rename_i o ho
      obtain ⟨pl', hpl', hok⟩ := r.obj b o ho
      rw [hpl] at hpl'; cases hpl'
      -- the whole of the block's part
      have base : ∃ all, RelO M o.c all ∧ all.length = pl.n ∧ (pl.nil = false → ∃ cs el fz, w.heap[pl.blk]? = some (.cells cs el fz) ∧ pl.off + pl.n ≤ cs.size ∧ all = (cs.toList.drop pl.off).take pl.n) := by
        rcases hok with ⟨a1, a2, a3⟩ | ⟨a1, cs, el, fz, a2, a3, a4, a5, _⟩
        · exact ⟨[], a3, by simp [a2], fun hn => by rw [hn] at a1; cases a1⟩
        · exact ⟨_, a5, by simp; omega, fun _ => ⟨cs, el, fz, a2, by omega, rfl⟩⟩
      obtain ⟨all, hall, hlall, hmem⟩ := base
      -- a part of it
      have part : ∀ us, us = (all.drop off).take (len * s) → Lies w v len s us := by
        intro us hus
        refine ⟨by rw [hus]; simp; omega, A, cap, hv, hcap, ?_⟩
        by_cases hz : len * s = 0
        · exact .inl hz
        · have hl0 : 0 < len := by
            rcases Nat.eq_zero_or_pos len with h0 | h0
            · rw [h0] at hz; simp at hz
            · exact h0
          have hn : pl.nil = false := by
            cases hq : pl.nil with
            | false => rfl
            | true => have := (hnil hq).2; omega
          obtain ⟨cs, el, fz, m1, m2, m3⟩ := hmem hn
          refine .inr ⟨pl.blk, pl.off + off, cs, el, fz, (hnn hn).2 (.inl hl0), m1, by omega, ?_⟩
          rw [hus, m3, sub_cells (by omega)]
      have ints : ∀ (k : IntKind) (l : List Int), (all = l.map (.int k) ∧ ∀ x ∈ l, k.has x) → RelO M (.row k ((l.drop off).take (len * s))) ((all.drop off).take (len * s)) := by
        intro k l hk
        refine ⟨?_, fun x hx => hk.2 x (List.mem_of_mem_drop (List.mem_of_mem_take hx))⟩
        rw [hk.1]
        simp [List.map_take, List.map_drop]
      split at h
      · rename_i hc
        cases h
        have h0 : off = 0 ∧ len * s = pl.n := by
          rcases hc with hc | hc
          · exact ⟨(hown hc).1, (hown hc).2.2.1⟩
          · exact hwhole hc
        refine ⟨all, hall, part all ?_⟩
        rw [h0.1, List.drop_zero, List.take_of_length_le (by omega)]
      · split at h
        · rename_i k l hoc
          cases h
          rw [hoc] at hall
          rw [mul1_eq]
          exact ⟨_, ints k l hall, part _ rfl⟩
        · rename_i k n l hoc
          rw [hoc] at hall
          simp only [RelO, RelC_single, RelX_is] at hall
          split at h
          · rename_i hz
            cases h
            refine ⟨all, ⟨hall.2.1, hall.2.2⟩, part all ?_⟩
            have : n = pl.n := by
              have := congrArg List.length hall.2.1
              simp at this
              omega
            rw [hz.1, List.drop_zero, List.take_of_length_le (by omega)]
          · cases h
            rw [mul1_eq]
            exact ⟨_, ints k l ⟨hall.2.1, hall.2.2⟩, part _ rfl⟩
        · cases h
    · cases h
  · cases h
    have hv : v = .slice none 0 0 := by simpa [RelV, RelX] using hx
    exact ⟨[], (RelC_nil (M := M)).2 rfl, by simp [slLen], none, 0, hv, Nat.le_refl _, .inl (by simp [slLen])⟩
  · cases h

/-- The first cells of a slice. -/
theorem run_first {P : Program} {w : World} {v : Value} {len sz : Nat} {us : List Value} (h : Lies w v len sz us) (n : Nat) (hn : n ≤ len) (w' : World) (hb : ∀ (g : Nat) (ob : Obj), w.heap[g]? = some ob → w'.heap[g]? = some ob) :
    (Builtin.firstCells sz n v).run P w' = .ok (us.take (n * sz)).toArray w' := by
  obtain ⟨hl, A, cap, hv, hcap, hm⟩ := h
  subst hv
  have hle : n * sz ≤ len * sz := Nat.mul_le_mul_right _ hn
  cases A with
  | none =>
    have : n * sz = 0 := by
      rcases hm with hm | ⟨_, _, _, _, _, e, _⟩
      · omega
      · cases e
    simp [Builtin.firstCells, this]
  | some A =>
    rcases hm with hm | ⟨blk, o, cs, el, fz, e, hg, hle2, hus⟩
    · have : n * sz = 0 := by omega
      simp [Builtin.firstCells, this, loadCells, loadCellsFrom]
    · cases e
      have := run_cells (P := P) (hb _ _ hg) (o := o) (s := n * sz) (by omega)
      simp only [Builtin.firstCells, this, hus]
      congr 2
      rw [List.take_take, Nat.min_eq_left hle]

def appC : Cont → Cont → Option Cont
  | .row k l, .row k' l' => if k' = k then some (.row k (l ++ l')) else none
  | .segs [], c => some c
  | c, .segs [] => some c
  | .segs cs, .segs cs' => some (.segs (cs ++ cs'))
  | _, _ => none

theorem appC_rel {M : List Place} {a b c : Cont} {us vs : List Value} (h : appC a b = some c) (ha : RelO M a us) (hb : RelO M b vs) : RelO M c (us ++ vs) := by
  unfold appC at h
  split at h
  · split at h
    · rename_i hk
      subst hk
      cases h
      refine ⟨by rw [ha.1, hb.1]; simp, fun x hx => ?_⟩
      rcases List.mem_append.1 hx with hx | hx
      · exact ha.2 x hx
      · exact hb.2 x hx
    · cases h
  · cases h
    simp only [RelO, RelC_nil] at ha
    subst ha
    simpa using hb
  · cases h
    simp only [RelO, RelC_nil] at hb
    subst hb
    simpa using ha
  · cases h
    exact RelC_append ha hb
  · cases h

/-- The cells of elements may be stored. -/
theorem ek_one {M : List Place} : ∀ {e : EK} {x : e.den} {us : List Value}, e.rel M x us → us.length = e.w ∧ ∀ v ∈ us, v.oneCell' = true
  | .row k sz, x, us, r => by
    obtain ⟨v, rfl, _, _, _, rfl, _⟩ := r
    exact ⟨rfl, fun v hv => by simp at hv; subst hv; rfl⟩
  | .pair, x, us, r => by
    obtain ⟨rfl, _⟩ := r
    exact ⟨rfl, fun v hv => by simp at hv; rcases hv with rfl | rfl <;> rfl⟩
  | .img k sz, x, us, r => by
    obtain ⟨v, rfl, _, _, _, _, _, rfl, _⟩ := r
    exact ⟨rfl, fun v hv => by simp at hv; rcases hv with rfl | rfl | rfl <;> rfl⟩
  | .deep e, x, us, r => by
    obtain ⟨v, rfl, _, _, _, rfl, _⟩ := r
    exact ⟨rfl, fun v hv => by simp at hv; subst hv; rfl⟩
theorem EK.w_pos (e : EK) : 1 ≤ e.w := by cases e <;> simp [EK.w]
theorem drow_all {M : List Place} {d : EKs} {us : List Value} (hr : RelO M (.drow d) us) : ∀ v ∈ us, v.oneCell' = true := by
  obtain ⟨hl, h⟩ := hr
  intro v hv
  obtain ⟨j, hj, rfl⟩ := List.mem_iff_getElem.1 hv
  have hw := d.e.w_pos
  have hq : j / d.e.w < d.l.length := (Nat.div_lt_iff_lt_mul hw).2 (by rw [← hl]; exact hj)
  have h1 := ek_one (h (j / d.e.w) _ (List.getElem?_eq_getElem hq))
  refine h1.2 _ (List.mem_of_getElem? (i := j % d.e.w) ?_)
  rw [List.getElem?_take, if_pos (Nat.mod_lt _ hw), List.getElem?_drop, Nat.mul_comm, Nat.div_add_mod, List.getElem?_eq_getElem hj]

/-- Are all cells such as may be stored? -/
def contSt : Cont → Bool
  | .row _ _ => true
  | .segs cs => cs.all fun c => match c with | .is _ _ _ => true | c => scal c
  | .drow _ => true
theorem contSt_all {M : List Place} {c : Cont} {us : List Value} (h : contSt c = true) (hr : RelO M c us) : ∀ v ∈ us, v.oneCell' = true := by
  cases c with
  | row k l =>
    intro v hv
    rw [hr.1] at hv
    obtain ⟨z, _, rfl⟩ := List.mem_map.1 hv
    rfl
  | segs cs => exact storable_all hr h
  | drow d => exact drow_all hr

def szOk (x : AV) (sz : Nat) : Bool :=
  match x with
  | .sl _ _ _ s _ => decide (s = sz)
  | .nils => true
  | _ => false
theorem szOk_spec {x : AV} {sz : Nat} (h : szOk x sz = true) : ∀ b off len s c, x = .sl b off len s c → s = sz := by
  intro b off len s c e
  subst e
  simpa [szOk] using h

/-- May the slice be appended to; and where it stood, if that is no more to be looked at. -/
def dstOk (H : Heap) : AV → Option (Bool × Option Nat)
  | .nils => some (false, none)
  | .sl b _ _ _ .own => match H[b]? with
    | some (some ⟨_, true, _⟩) => some (false, some b)
    | _ => none
  | .sl _ _ _ _ .full => some (true, none)
  | _ => none

def killO (H : Heap) : Option Nat → Heap
  | some b => H.set b none
  | none => H

def aappend (P : Program) (H : Heap) (ts : Array TypeId) (s x : AV) : Option (Bool × AV × Heap) :=
  match ts[0]?, ts[1]? with
  | some t, some t' => match P.underlying t, P.underlying t' with
    | some (.slice e), some (.slice _) => match sizeT P e, P.info? e, zeroC P e with
      | some sz, some i, some z =>
        if 1 ≤ sz ∧ 1 ≤ i.bytes ∧ i.bytes ≤ 64 ∧ szOk s sz = true ∧ szOk x sz = true ∧ wid z = sz then
          match wholeC H s, wholeC H x, dstOk H s with
          | some cs, some cx, some (full, kill) => match appC cs cx with
            | some c => if contSt cx = true then
                some (decide (slLen s + slLen x ≤ 1099511627776) && (if full then decide (0 < slLen x) else true), .sl H.length 0 (slLen s + slLen x) sz .own, killO H kill ++ [some ⟨c, true, none⟩])
              else none
            | none => none
          | _, _, _ => none
        else none
      | _, _, _ => none
    | _, _ => none
  | _, _ => none

theorem growBy_le (newLen : Nat) : ∀ (rounds c : Nat), c ≤ newLen + (newLen + 768) / 4 → Builtin.growBy newLen rounds c ≤ newLen + (newLen + 768) / 4
  | 0, c, h => h
  | r + 1, c, h => by
    unfold Builtin.growBy
    split
    · exact h
    · exact growBy_le newLen r _ (by omega)

theorem nextslicecap_le (newLen old : Nat) (h : old < newLen) : Builtin.nextslicecap newLen old ≤ 2 * newLen + 1024 := by
  unfold Builtin.nextslicecap
  split
  · omega
  · split
    · omega
    · have := growBy_le newLen 4 old (by omega)
      omega

theorem run_askRoom {P : Program} (b : Nat) (w : World) : (askRoom b).run P w = .ok () w := by
  unfold askRoom
  split <;> simp [mark, Sem.run]

/-- The row of a slice that was the call's own has been written behind its end. -/
theorem RelH.regrow {M : List Place} {H : Heap} {B : Base} {w : World} (r : RelH M H B w) {b : Nat} {o : AObj} {pl : Place} (ho : H[b]? = some (some o)) (how : o.own = true) (hpl : M[b]? = some pl) (hnil : pl.nil = false)
    {cs : Array Value} {el : TypeId} {fz : Nat × Nat} (hg : w.heap[pl.blk]? = some (.cells cs el fz)) {us : Array Value} {n : Nat} (hn : n ≤ us.size) {c : Cont} (hc : RelO M c (us.toList.take n)) :
    RelH (M ++ [⟨false, pl.blk, 0, n, us.size, noFz⟩]) (H.set b none ++ [some ⟨c, true, none⟩]) B (w.setRow pl.blk us) ∧ Beneath B w (w.setRow pl.blk us) := by
  obtain ⟨pl', hpl', hok⟩ := r.obj b o ho
  rw [hpl] at hpl'
  cases hpl'
  rcases hok with ⟨a1, _⟩ | ⟨_, cs', el', fz', hg', hs1, hs2, hro, hown⟩
  · rw [hnil] at a1; cases a1
  rw [hg] at hg'
  cases hg'
  obtain ⟨hfz, hoff, hB⟩ := hown how
  have hset : ∀ k, k ≠ pl.blk → (w.setRow pl.blk us).heap[k]? = w.heap[k]? := fun k hk => setRow_other w pl.blk k us (fun h => hk h)
  have hself := setRow_heap w pl.blk cs us el fz hg
  have hE : Ext M (M ++ [⟨false, pl.blk, 0, n, us.size, noFz⟩]) := Ext.snoc M _
  have hlen := r.len
  -- what stands in the new memory
  have back : ∀ (i : Nat) (oi : AObj), (H.set b none ++ [some ⟨c, true, none⟩])[i]? = some (some oi) → (i < M.length ∧ i ≠ b ∧ H[i]? = some (some oi)) ∨ (i = M.length ∧ oi = ⟨c, true, none⟩) := by
    intro i oi hi
    rw [List.getElem?_append] at hi
    split at hi
    · rename_i hlt
      simp at hlt
      rw [List.getElem?_set] at hi
      split at hi
      · split at hi <;> cases hi
      · rename_i hne
        exact .inl ⟨by omega, fun h => hne h.symm, hi⟩
    · rename_i hge
      simp at hge
      have : i - (H.set b none).length = 0 := by
        rcases Nat.eq_zero_or_pos (i - (H.set b none).length) with h | h
        · exact h
        · rw [List.getElem?_eq_none (by simp at h ⊢; omega)] at hi; cases hi
      rw [this] at hi
      simp at hi this
      exact .inr ⟨by omega, hi.symm⟩
  have place : ∀ (i : Nat) (pi : Place), (M ++ [⟨false, pl.blk, 0, n, us.size, noFz⟩])[i]? = some pi → i < M.length → M[i]? = some pi := by
    intro i pi hpi hlt
    rwa [List.getElem?_append_left hlt] at hpi
  have last : ∀ (pi : Place), (M ++ [⟨false, pl.blk, 0, n, us.size, noFz⟩])[M.length]? = some pi → pi.blk = pl.blk := by
    intro pi hpi
    simp at hpi
    rw [← hpi]
  refine ⟨⟨by simp [r.len], by simpa using r.base, fun i oi hi => ?_, fun i j oi oj pi pj hi hj hpi hpj hne how' hni hnj => ?_, fun i oi pi k hi hpi hk => ?_, fun i oi pi hi hpi hn => ?_,
    fun k ob hk => ⟨(hset k (fun e => (r.fo b o pl ho hpl how hnil).2 ob (e ▸ FzAt.snoc rfl hk))).trans (r.fz k ob (FzAt.snoc rfl hk)).1, (r.fz k ob (FzAt.snoc rfl hk)).2⟩, fun i oi pi hi hpi how' hn => ?_, by simpa using r.bf⟩, ⟨rfl, rfl, rfl, by simp, fun k _ hw => hset k (fun e => hw (e ▸ hB))⟩⟩
  · rcases back i oi hi with ⟨hlt, hne, hi'⟩ | ⟨rfl, rfl⟩
    · obtain ⟨pi, hpi, hoki⟩ := r.obj i oi hi'
      refine ⟨pi, hE _ _ hpi, ?_⟩
      rcases hoki with ⟨n1, n2, n3⟩ | ⟨n1, cs1, el1, fz1, g1, g2, g3, g4, g5⟩
      · exact .inl ⟨n1, n2, n3.mono hE⟩
      · refine .inr ⟨n1, cs1, el1, fz1, ?_, g2, g3, g4.mono hE, g5⟩
        rw [hset]
        · exact g1
        · exact fun h => r.sep b i o oi pl pi ho hi' hpl hpi (fun h => hne h.symm) how hnil n1 h.symm
    · refine ⟨⟨false, pl.blk, 0, n, us.size, noFz⟩, by simp, .inr ⟨rfl, us, el, fz, hself, rfl, by simpa using hn, ?_, fun _ => ⟨hfz, rfl, hB⟩⟩⟩
      simpa using hc.mono hE
  · rcases back i oi hi with ⟨hlt, hneb, hi'⟩ | ⟨rfl, rfl⟩ <;> rcases back j oj hj with ⟨hlt2, hneb2, hj'⟩ | ⟨rfl, rfl⟩
    · exact r.sep i j oi oj pi pj hi' hj' (place i pi hpi hlt) (place j pj hpj hlt2) hne how' hni hnj
    · rw [last pj hpj]
      exact fun h => r.sep b i o oi pl pi ho hi' hpl (place i pi hpi hlt) (fun h => hneb h.symm) how hnil hni h.symm
    · rw [last pi hpi]
      exact r.sep b j o oj pl pj ho hj' hpl (place j pj hpj hlt2) (fun h => hneb2 h.symm) how hnil hnj
    · exact absurd rfl hne
  · rcases back i oi hi with ⟨hlt, hneb, hi'⟩ | ⟨rfl, rfl⟩
    · exact r.pin i oi pi k hi' (place i pi hpi hlt) hk
    · cases hk
  · rcases back i oi hi with ⟨hlt, hneb, hi'⟩ | ⟨rfl, rfl⟩
    · exact r.vis i oi pi hi' (place i pi hpi hlt) hn
    · rw [last pi hpi]; exact r.vis b o pl ho hpl hnil
  · rcases back i oi hi with ⟨hlt, hneb, hi'⟩ | ⟨rfl, rfl⟩
    · exact ⟨(r.fo i oi pi hi' (place i pi hpi hlt) how' hn).1, fun ob h => (r.fo i oi pi hi' (place i pi hpi hlt) how' hn).2 ob (FzAt.snoc rfl h)⟩
    · rw [last pi hpi]; exact ⟨(r.fo b o pl ho hpl how hnil).1, fun ob h => (r.fo b o pl ho hpl how hnil).2 ob (FzAt.snoc rfl h)⟩

theorem append_run_fits {P : Program} {t t' e e' : TypeId} {w : World} (hu : P.underlying t = some (.slice e)) (hu' : P.underlying t' = some (.slice e')) {sz : Nat} (hs : sizeT P e = some sz) {ts : Array TypeId} (h0 : ts[0]? = some t) (h1 : ts[1]? = some t')
    {base : Option Addr} {sLen sCap : Nat} {x : Value} {m : Nat} (hlx : (Builtin.lenOf x).run P w = .ok m w) {new : Array Value} (hnew : (Builtin.firstCells sz m x).run P w = .ok new w) (hfit : sLen + m ≤ sCap) {ty : TypeId} {w' : World}
    (hst : (match base with | some a => storeCells (a.add (sLen * sz)) new.toList | none => pure ()).run P w = .ok () w') :
    (Builtin.append_ ts ty #[.slice base sLen sCap, x]).run P w = .ok (.slice base (sLen + m) sCap) w' := by
  cases base with
  | none =>
    simp only at hst
    simp [Builtin.append_, h0, h1, run_underlying hu, run_underlying hu', run_sizeT hs, hlx, hfit, hnew] at hst ⊢
    exact hst
  | some a =>
    simp only at hst
    simp [Builtin.append_, h0, h1, run_underlying hu, run_underlying hu', run_sizeT hs, hlx, hfit, hnew, hst]

theorem append_run_grows {P : Program} {t t' e e' : TypeId} {w : World} (hu : P.underlying t = some (.slice e)) (hu' : P.underlying t' = some (.slice e')) {sz : Nat} (hs : sizeT P e = some sz) {i : TypeInfo} (hi : P.info? e = some i) {z : Value} (hz : ∀ w, (zeroValue e).run P w = .ok z w)
    {ts : Array TypeId} (h0 : ts[0]? = some t) (h1 : ts[1]? = some t') {base : Option Addr} {sLen sCap : Nat} {x : Value} {m : Nat} (hlx : (Builtin.lenOf x).run P w = .ok m w) {old new : Array Value}
    (hold : (Builtin.firstCells sz sLen (.slice base sLen sCap)).run P w.drew = .ok old w.drew) (hnew : (Builtin.firstCells sz m x).run P w.drew = .ok new w.drew)
    (hfit : ¬ sLen + m ≤ sCap) (hb1 : 1 ≤ i.bytes) (hb : i.bytes ≤ 64) (hneed : sLen + m ≤ 1099511627776) {ty : TypeId} :
    ∃ nc, sLen + m ≤ nc ∧
    (Builtin.append_ ts ty #[.slice base sLen sCap, x]).run P w = .ok (.slice (some ⟨w.heap.size, 0, none⟩) (sLen + m) nc) (w.drew.alloc (.cells (old ++ new ++ Builtin.zeroCells z.cells (nc - (sLen + m))) e)) := by
  have hcap := nextslicecap_le (sLen + m) sCap (by omega)
  have hbig : ¬ Builtin.nextslicecap (sLen + m) sCap * i.bytes > 2 ^ 48 := by
    have h2 : Builtin.nextslicecap (sLen + m) sCap * i.bytes ≤ (2 * (sLen + m) + 1024) * 64 := Nat.mul_le_mul hcap hb
    omega
  have hov : ¬ ((sLen + m : Nat) : Int) > IntKind.i64.max := by
    have : IntKind.i64.max = 9223372036854775807 := rfl
    omega
  refine ⟨Question.cut (.appendCap (sLen + m) sCap e) (w.tape w.drawn (.appendCap (sLen + m) sCap e)), ?_, ?_⟩
  · simp [Question.cut]
  · have hov2 : ¬ ((((sLen : Nat) : Int) + (m : Int)) > IntKind.i64.max) := by
      have : IntKind.i64.max = 9223372036854775807 := rfl
      omega
    have hask := fun (b : Nat) (w : World) => run_askRoom (P := P) b w
    have hb0 : i.bytes ≠ 0 := by omega
    have hfr : (Question.appendCap (sLen + m) sCap e).forced = false := rfl
    simp [Builtin.append_, h0, h1, run_underlying hu, run_underlying hu', run_sizeT hs, hlx, hfit, typeInfo, hi, hbig, hb0, hfr, hask, hold, hnew, hz, newRow, newObj, Sem.run]

theorem lenOf_lies {P : Program} {w : World} {v : Value} {len sz : Nat} {us : List Value} (h : Lies w v len sz us) (w' : World) : (Builtin.lenOf v).run P w' = .ok len w' := by
  obtain ⟨_, A, cap, hv, _⟩ := h
  subst hv
  simp [Builtin.lenOf]

theorem zeroCells_size (z : Array Value) (n : Nat) : (Builtin.zeroCells z n).size = n * z.size := by simp [Builtin.zeroCells]

/-- A row that lies nowhere. -/
theorem RelH.pushNil {M : List Place} {H : Heap} {B : Base} {w : World} (hk : RelH M H B w) {cn : Cont} (hcat0 : RelO M cn []) : RelH (M ++ [⟨true, 0, 0, 0, 0, noFz⟩]) (H ++ [some ⟨cn, true, none⟩]) B w := by
  have hE : Ext M (M ++ [⟨true, 0, 0, 0, 0, noFz⟩]) := Ext.snoc M _
  have hlen2 := hk.len
  refine ⟨by simp; omega, hk.base, fun i o' ho' => ?_, fun i j oi oj pi pj hi hj hpi hpj hne how hni hnj => ?_, fun i o pl k ho hp hk' => ?_, fun i o pl ho hp hn => ?_, fun k ob hh => hk.fz k ob (FzAt.snoc rfl hh), fun i o pl ho hp how hn => ?_, hk.bf⟩
  · rw [List.getElem?_append] at ho'
    split at ho'
    · obtain ⟨pi, hpi, hoki⟩ := hk.obj i o' ho'
      refine ⟨pi, hE _ _ hpi, ?_⟩
      rcases hoki with ⟨n1, n2, n3⟩ | ⟨n1, cs1, el1, fz1, g1, g2, g3, g4, g5⟩
      · exact .inl ⟨n1, n2, n3.mono hE⟩
      · exact .inr ⟨n1, cs1, el1, fz1, g1, g2, g3, g4.mono hE, g5⟩
    · rename_i hge
      have h3 : i - H.length = 0 := by
        rcases Nat.eq_zero_or_pos (i - H.length) with h | h
        · exact h
        · rw [List.getElem?_eq_none (by simp; omega)] at ho'; cases ho'
      rw [h3] at ho'
      simp at ho'
      subst ho'
      refine ⟨⟨true, 0, 0, 0, 0, noFz⟩, ?_, .inl ⟨rfl, rfl, hcat0.mono hE⟩⟩
      have : i = M.length := by omega
      subst this
      simp
  · have old : ∀ (i : Nat) (oi : AObj) (pi : Place), (H ++ [some ⟨cn, true, none⟩])[i]? = some (some oi) → (M ++ [⟨true, 0, 0, 0, 0, noFz⟩])[i]? = some pi → pi.nil = false → H[i]? = some (some oi) ∧ M[i]? = some pi := by
      intro i oi pi hi hpi hni
      by_cases hlt : i < M.length
      · rw [List.getElem?_append_left (by omega)] at hi
        rw [List.getElem?_append_left hlt] at hpi
        exact ⟨hi, hpi⟩
      · exfalso
        rw [List.getElem?_append_right (by omega)] at hpi
        cases hq2 : i - M.length with
        | zero => rw [hq2] at hpi; simp at hpi; subst hpi; cases hni
        | succ k => rw [hq2] at hpi; simp at hpi
    obtain ⟨b1, b2⟩ := old i oi pi hi hpi hni
    obtain ⟨c1, c2⟩ := old j oj pj hj hpj hnj
    exact hk.sep i j oi oj pi pj b1 c1 b2 c2 hne how hni hnj
  · rcases snoc_cases hk.len ho hp with ⟨h1, h2⟩ | ⟨h, rfl⟩
    · exact hk.pin i o pl k h1 h2 hk'
    · cases h; cases hk'
  · rcases snoc_cases hk.len ho hp with ⟨h1, h2⟩ | ⟨h, rfl⟩
    · exact hk.vis i o pl h1 h2 hn
    · cases hn
  · rcases snoc_cases hk.len ho hp with ⟨h1, h2⟩ | ⟨h, rfl⟩
    · exact ⟨(hk.fo i o pl h1 h2 how hn).1, fun ob h => (hk.fo i o pl h1 h2 how hn).2 ob (FzAt.snoc rfl h)⟩
    · cases hn

theorem relV_nilSl {M : List Place} {H : Heap} {B : Base} {w : World} (r : RelH M H B w) (sz : Nat) : RelV (M ++ [⟨true, 0, 0, 0, 0, noFz⟩]) (.sl H.length 0 0 sz .own) (.slice none 0 0) := by
  simp only [RelV, RelX]
  refine ⟨⟨true, 0, 0, 0, 0, noFz⟩, none, 0, by rw [r.len]; simp, rfl, by simp, by simp, fun _ => ⟨fun _ => rfl, rfl⟩, fun h => (by cases h), fun h => (by cases h), fun _ => ⟨trivial, rfl, by simp, by simp⟩, fun h => (by cases h), by rw [has_iff]; simp [loB, hiB]⟩

theorem aappend_sound {P : Program} {M : List Place} {H : Heap} {B : Base} {w : World} (r : RelH M H B w) {ρ : Operand → Value} {o : Oper} {c : Call} (ho : o.op = .call c) (hc : c.callee = .builtin .append) {y z : Operand} (ha : c.args = #[y, z]) {s x : AV} (hs : RelV M s (ρ y)) (hx : RelV M x (ρ z))
    {v' : AV} {H' : Heap} {req : Bool} (h : aappend P H c.argTypes s x = some (req, v', H')) (hreq : req = true) :
    ∃ v w' M', (execOp ρ o).run P w = .ok (.value v) w' ∧ Ext M M' ∧ RelH M' H' B w' ∧ Beneath B w w' ∧ RelV M' v' v := by
  subst hreq
  unfold aappend at h
  split at h
  · rename_i t t' h0 h1
    split at h
    · rename_i e e' hu hu'
      split at h
      · rename_i sz i zc hsz hi hzc
        split at h
        · rename_i hcond
          obtain ⟨h1s, hb1, hb64, hso, hxo, hwz⟩ := hcond
          split at h
          · rename_i cs cx full kill hcs hcx hdst
            split at h
            · rename_i cn hcn
              split at h
              · rename_i hst
                simp only [Option.some.injEq, Prod.mk.injEq, Bool.and_eq_true, decide_eq_true_eq] at h
                obtain ⟨⟨hneed, hfull⟩, hv', hH'⟩ := h
                obtain ⟨us, hus, lus⟩ := wholeC_rel r hs hcs (szOk_spec hso)
                obtain ⟨xs, hxs, lxs⟩ := wholeC_rel r hx hcx (szOk_spec hxo)
                have hone := contSt_all hst hxs
                have hcat := appC_rel hcn hus hxs
                obtain ⟨_, zv, _, _, hzrun, hzrel⟩ := zeroC_rel hzc
                have hzs : zv.cells.size = sz := by have := RelC_length (hzrel M); simp at this; omega
                generalize slLen s = n at *
                generalize slLen x = m at *
                have hlus := lus.1
                have hlxs := lxs.1
                have hlx := lenOf_lies (P := P) lxs w
                have hnew := run_first (P := P) lxs m (Nat.le_refl _) w (fun _ _ h => h)
                rw [List.take_of_length_le (by omega)] at hnew
                obtain ⟨A, cap, hv, hcap, hmem⟩ := lus.2
                have hhas : IntKind.i64.has ((n + m : Nat) : Int) := by rw [has_iff]; simp only [loB, hiB]; omega
                have hexec : ∀ w1 v1, (Builtin.append_ c.argTypes o.type #[.slice A n cap, ρ z]).run P w = .ok v1 w1 → (execOp ρ o).run P w = .ok (.value v1) w1 := by
                  intro w1 v1 hrun
                  have hargs : c.args.map ρ = #[.slice A n cap, ρ z] := by simp [ha, hv]
                  simp [execOp, ho, resolve, hc, invoke, builtin, hargs, hrun]
                rw [← hv', ← hH']
                by_cases hfit : n + m ≤ cap
                · -- there is room
                  cases s <;> simp only [dstOk, reduceCtorEq, Option.some.injEq, Prod.mk.injEq] at hdst
                  case sl b off len s' cc =>
                    have hs' := szOk_spec hso _ _ _ _ _ rfl
                    subst hs'
                    have hs0 := hs
                    simp only [RelV, RelX] at hs0
                    obtain ⟨pl, A', cap', hpl, hv2, hb, hcap', hnil, hnn, hff, hown, hwhole, hlen⟩ := hs0
                    have hv2 : ρ y = .slice A' len cap' := by simpa using hv2
                    rw [hv] at hv2
                    injection hv2 with e1 e2 e3
                    subst e1; subst e2; subst e3
                    cases cc <;> simp only [Option.some.injEq, Prod.mk.injEq, reduceCtorEq] at hdst
                    case full =>
                      obtain ⟨rfl, rfl⟩ := hdst
                      have := hff rfl
                      simp only [if_true, decide_eq_true_eq] at hfull
                      omega
                    case own =>
                      split at hdst
                      case h_2 => cases hdst
                      rename_i c0 hoH
                      simp only [Option.some.injEq, Prod.mk.injEq] at hdst
                      obtain ⟨rfl, rfl⟩ := hdst
                      obtain ⟨d1, d2, d3, d4⟩ := hown rfl
                      cases hq : pl.nil with
                      | true =>
                        -- nothing at all
                        obtain ⟨f1, f2⟩ := hnil hq
                        have f1 := f1 rfl
                        subst f1; subst f2
                        have hz0 : n = 0 ∧ m = 0 := by omega
                        obtain ⟨rfl, rfl⟩ := hz0
                        have hrun := append_run_fits (P := P) hu hu' hsz h0 h1 (base := none) (sLen := 0) (sCap := 0) hlx hnew (by omega) (ty := o.type) (w' := w) rfl
                        simp only [killO]
                        have hk := r.kill b
                        refine ⟨_, w, M ++ [⟨true, 0, 0, 0, 0, noFz⟩], hexec _ _ hrun, Ext.snoc M _, ?_, Beneath.refl _ _, ?_⟩
                        · have hcat0 : RelO M cn [] := by
                            have h1 : us = [] := by apply List.eq_nil_of_length_eq_zero; omega
                            have h2 : xs = [] := by apply List.eq_nil_of_length_eq_zero; omega
                            subst h1; subst h2
                            simpa using hcat
                          exact hk.pushNil hcat0
                        · have := relV_nilSl r s'
                          simpa using this
                      | false =>
                        have hA := (hnn hq).2 (.inr rfl)
                        subst hA
                        have hob : ∃ o', H[b]? = some (some o') ∧ o'.own = true := ⟨_, hoH, rfl⟩
                        obtain ⟨o', ho', how'⟩ := hob
                        obtain ⟨pl', hpl', hok⟩ := r.obj b o' ho'
                        rw [hpl] at hpl'; cases hpl'
                        rcases hok with ⟨n1, _⟩ | ⟨_, cells, el, fz, hg, hs1, hs2, hro, hown2⟩
                        · rw [hq] at n1; cases n1
                        obtain ⟨hfz, _, hB⟩ := hown2 how'
                        subst hfz
                        have hle : (n + m) * s' ≤ cap * s' := Nat.mul_le_mul_right _ hfit
                        have hsum : n * s' + m * s' = (n + m) * s' := by rw [Nat.add_mul]
                        have hstore := run_storeCells_at P pl.blk (n * s') el xs 0 cells w hg (by simp; omega) hone
                        simp only [Nat.add_zero] at hstore
                        have hadd : (⟨pl.blk, pl.off + off, none⟩ : Addr).add (n * s') = ⟨pl.blk, n * s', none⟩ := by rw [addr_add, d1, d2]; simp
                        have hrun := append_run_fits (P := P) hu hu' hsz h0 h1 (base := some ⟨pl.blk, pl.off + off, none⟩) hlx hnew hfit (ty := o.type) (w' := w.setRow pl.blk (cells.toList.take (n * s') ++ xs ++ cells.toList.drop (n * s' + xs.length)).toArray) (by simp only [hadd]; exact hstore)
                        have husz : (cells.toList.take (n * s') ++ xs ++ cells.toList.drop (n * s' + xs.length)).toArray.size = cells.size := by simp; omega
                        have husE : us = cells.toList.take (n * s') := by
                          rcases hmem with hm | ⟨blk, o2, cs2, el2, fz2, e, hg2, hle2, hus2⟩
                          · have : us = [] := by apply List.eq_nil_of_length_eq_zero; omega
                            rw [this, hm]; rfl
                          · injection e with e
                            injection e with e1 e2
                            subst e1
                            rw [hg] at hg2
                            cases hg2
                            rw [hus2, ← e2, d1, d2]
                            simp
                        obtain ⟨k1, k2⟩ := r.regrow ho' how' hpl hq hg (us := (cells.toList.take (n * s') ++ xs ++ cells.toList.drop (n * s' + xs.length)).toArray) (n := (n + m) * s') (by rw [husz]; omega) (c := cn) (by
                          rw [List.toList_toArray, List.take_append, List.take_of_length_le (by simp; omega), ← husE, show (n + m) * s' - (us ++ xs).length = 0 by simp; omega]
                          simpa using hcat)
                        refine ⟨_, _, _, hexec _ _ hrun, Ext.snoc M _, k1, k2, ?_⟩
                        simp only [RelV, RelX]
                        refine ⟨⟨false, pl.blk, 0, (n + m) * s', (cells.toList.take (n * s') ++ xs ++ cells.toList.drop (n * s' + xs.length)).toArray.size, noFz⟩, _, cap, by rw [r.len]; simp, rfl, by simp, hfit, fun h => (by cases h), fun _ => ⟨by simp, fun _ => by simp [d1, d2]⟩, fun h => (by cases h), fun _ => ⟨trivial, rfl, rfl, by rw [husz]; show cap * s' ≤ cells.size; omega⟩, fun h => (by cases h), hhas⟩
                  case nils =>
                    obtain ⟨rfl, rfl⟩ := hdst
                    have hv2 : ρ y = .slice none 0 0 := by simpa [RelV, RelX] using hs
                    rw [hv] at hv2
                    injection hv2 with e1 e2 e3
                    subst e1; subst e2; subst e3
                    have hz0 : m = 0 := by omega
                    subst hz0
                    have hrun := append_run_fits (P := P) hu hu' hsz h0 h1 (base := none) (sLen := 0) (sCap := 0) hlx hnew (by omega) (ty := o.type) (w' := w) rfl
                    simp only [killO]
                    refine ⟨_, w, M ++ [⟨true, 0, 0, 0, 0, noFz⟩], hexec _ _ hrun, Ext.snoc M _, ?_, Beneath.refl _ _, relV_nilSl r sz⟩
                    have h1 : us = [] := by apply List.eq_nil_of_length_eq_zero; omega
                    have h2 : xs = [] := by apply List.eq_nil_of_length_eq_zero; omega
                    subst h1; subst h2
                    exact r.pushNil (by simpa using hcat)
                · -- a new row
                  have hold := run_first (P := P) lus n (Nat.le_refl _) w.drew (fun _ _ h => h)
                  rw [List.take_of_length_le (by omega), hv] at hold
                  have hnewd := run_first (P := P) lxs m (Nat.le_refl _) w.drew (fun _ _ h => h)
                  rw [List.take_of_length_le (by omega)] at hnewd
                  obtain ⟨nc, hnc, hrun⟩ := append_run_grows (P := P) hu hu' hsz hi hzrun h0 h1 hlx hold hnewd hfit hb1 hb64 hneed (ty := o.type)
                  have hsum : n * sz + m * sz = (n + m) * sz := by rw [Nat.add_mul]
                  have hb0 : Below w.heap.size w w.drew := (Below.refl _ _).drew
                  have rk : RelH M (killO H kill) B w.drew := by
                    have := r.below hb0
                    cases kill with
                    | none => exact this
                    | some b => exact this.kill b
                  have hcsz : (us.toArray ++ xs.toArray ++ Builtin.zeroCells zv.cells (nc - (n + m))).size = nc * sz := by
                    simp [zeroCells_size, hzs, hlus, hlxs]
                    rw [hsum, ← Nat.add_mul]
                    congr 1
                    omega
                  have hle : (n + m) * sz ≤ nc * sz := Nat.mul_le_mul_right _ hnc
                  obtain ⟨a1, a2, a3⟩ := rk.alloc (c := cn) (cs := us.toArray ++ xs.toArray ++ Builtin.zeroCells zv.cells (nc - (n + m))) (el := e) (n := (n + m) * sz) (by omega) (by
                    simp only [Array.toList_append]
                    rw [List.take_append, List.take_of_length_le (by simp; omega), show (n + m) * sz - (us ++ xs).length = 0 by simp; omega]
                    simpa using hcat) true
                  have hkl : (killO H kill).length = H.length := by cases kill <;> simp [killO]
                  refine ⟨_, _, _, hexec _ _ hrun, a2, a1, (Beneath.of hb0).trans a3, ?_⟩
                  have := relV_newSl rk (len := n + m) (sz := sz) (cap := nc) (size := (us.toArray ++ xs.toArray ++ Builtin.zeroCells zv.cells (nc - (n + m))).size) hnc (by omega) hhas
                  rw [hkl] at this
                  exact this
              · cases h
            · cases h
          · cases h
        · cases h
      · cases h
    · cases h
  · cases h

/-! ### copy -/

def acopy (P : Program) (H : Heap) (ts : Array TypeId) (s x : AV) : Option (AV × Heap) :=
  match s, ts[0]? with
  | .sl b off len sz _, some t =>
    if elemOfSl P t = some sz ∧ 1 ≤ sz ∧ szOk x sz = true then
      match H[b]?, wholeC H x with
      | some (some ⟨.row k l, true, pn⟩), some (.row k' l') => if k' = k then some (.int .i64 none (min (slLen x) len : Nat), H.set b (some ⟨.row k (l.take off ++ l'.take (mul1 (min (slLen x) len) sz) ++ l.drop (off + mul1 (min (slLen x) len) sz)), true, pn⟩)) else none
      | some (some ⟨.segs [.is k n l], true, pn⟩), some (.row k' l') => if k' = k then some (.int .i64 none (min (slLen x) len : Nat), H.set b (some ⟨.segs [.is k n (l.take off ++ l'.take (mul1 (min (slLen x) len) sz) ++ l.drop (off + mul1 (min (slLen x) len) sz))], true, pn⟩)) else none
      | _, _ => none
    else none
  | _, _ => none

theorem acopy_sound {P : Program} {M : List Place} {H : Heap} {B : Base} {w : World} (r : RelH M H B w) {ρ : Operand → Value} {o : Oper} {c : Call} (ho : o.op = .call c) (hc : c.callee = .builtin .copy) {y z : Operand} (ha : c.args = #[y, z]) {s x : AV} (hs : RelV M s (ρ y)) (hx : RelV M x (ρ z))
    {v' : AV} {H' : Heap} (h : acopy P H c.argTypes s x = some (v', H')) :
    ∃ v w' M', (execOp ρ o).run P w = .ok (.value v) w' ∧ Ext M M' ∧ RelH M' H' B w' ∧ Beneath B w w' ∧ RelV M' v' v := by
  unfold acopy at h
  split at h
  · rename_i b off len sz cc t ht
    split at h
    · rename_i hcond
      obtain ⟨hel, h1s, hxo⟩ := hcond
      obtain ⟨e, hu, hsz⟩ := elemOfSl_spec hel
      simp only [RelV, RelX] at hs
      obtain ⟨pl, A, cap, hpl, hv, hb, hcap, hnil, hnn, _, _, _, hlen⟩ := hs
      have hv : ρ y = .slice A len cap := by simpa using hv
      have hexec : ∀ w1 v1, (Builtin.copy_ c.argTypes o.type #[.slice A len cap, ρ z]).run P w = .ok v1 w1 → (execOp ρ o).run P w = .ok (.value v1) w1 := by
        intro w1 v1 hrun
        have hargs : c.args.map ρ = #[.slice A len cap, ρ z] := by simp [ha, hv]
        simp [execOp, ho, resolve, hc, invoke, builtin, hargs, hrun]
      have key : ∀ (oc : Cont) (k : IntKind) (l l' : List Int) (nc : Cont) (pn : Option Nat), H[b]? = some (some ⟨oc, true, pn⟩) → (∀ vs, RelO M oc vs → vs = l.map (.int k) ∧ ∀ x ∈ l, k.has x) → wholeC H x = some (.row k l') →
          (∀ (vs : List Value) (l2 : List Int), vs = l2.map (.int k) → (∀ x ∈ l2, k.has x) → l2.length = l.length → l2 = l.take off ++ l'.take (mul1 (min (slLen x) len) sz) ++ l.drop (off + mul1 (min (slLen x) len) sz) → RelO M nc vs) →
          ∃ v w' M', (execOp ρ o).run P w = .ok (.value v) w' ∧ Ext M M' ∧ RelH M' (H.set b (some ⟨nc, true, pn⟩)) B w' ∧ Beneath B w w' ∧ RelV M' (.int .i64 none (min (slLen x) len : Nat)) v := by
        intro oc k l l' nc pn hob hrel hwx hnew
        obtain ⟨xs, hxs, lxs⟩ := wholeC_rel r hx hwx (szOk_spec hxo)
        generalize slLen x = m at *
        have hmin : min m len ≤ m := Nat.min_le_left _ _
        have hmin2 : min m len ≤ len := Nat.min_le_right _ _
        have hminz : len = 0 → min m len = 0 := fun h => by omega
        have hmeq : Nat.min m len = min m len := rfl
        generalize min m len = q0 at *
        have hcells := run_first (P := P) lxs (q0) hmin w (fun _ _ h => h)
        have hlx := lenOf_lies (P := P) lxs w
        have hms : q0 * sz ≤ m * sz := Nat.mul_le_mul_right _ hmin
        have hls : q0 * sz ≤ len * sz := Nat.mul_le_mul_right _ hmin2
        have hxl := lxs.1
        have hhas : IntKind.i64.has ((q0 : Nat) : Int) := has_le hlen hmin2
        have hr : RelV M (.int .i64 none (q0 : Nat)) (goInt (q0 : Nat)) := RelX_int.2 ⟨rfl, hhas, fun q hq => by cases hq⟩
        have hxi : xs.take (q0 * sz) = (l'.take (q0 * sz)).map (.int k) := by rw [hxs.1]; simp [List.map_take]
        have hxh : ∀ y ∈ l'.take (q0 * sz), k.has y := fun y hy => hxs.2 y (List.mem_of_mem_take hy)
        have hl'l : l'.length = m * sz := by have := congrArg List.length hxs.1; simp at this; omega
        obtain ⟨pl', hpl', hok⟩ := r.obj b _ hob
        rw [hpl] at hpl'; cases hpl'
        rw [mul1_eq] at hnew
        rcases hok with ⟨n1, n2, n3⟩ | ⟨n1, cells, el, fz, hg, hs1, hs2, hro, hown⟩
        · -- nowhere
          obtain ⟨f1, f2⟩ := hnil n1
          subst f2
          have hz : q0 = 0 := by omega
          obtain ⟨g1, g2⟩ := hrel _ n3
          have hl0 : l = [] := by
            have := congrArg List.length g1
            simp at this
            exact List.eq_nil_of_length_eq_zero this.symm
          subst hl0
          have hrun : (Builtin.copy_ c.argTypes o.type #[.slice A len 0, ρ z]).run P w = .ok (goInt (q0 : Nat)) w := by
            cases A with
            | none => simp [Builtin.copy_, ht, run_underlying hu, hlx, run_sizeT hsz, hmeq, hcells]
            | some a =>
              have hc0 := hcells
              rw [hz] at hc0
              simp only [Nat.zero_mul, List.take_zero] at hc0
              simp [Builtin.copy_, ht, run_underlying hu, hlx, run_sizeT hsz, hmeq, hz, hc0, storeCells]
          refine ⟨_, w, M, hexec _ _ hrun, Ext.refl M, ?_, Beneath.refl _ _, hr⟩
          have hnc : RelO M nc [] := hnew [] [] rfl (by simp) rfl (by simp [hz])
          refine ⟨by simp [r.len], r.base, fun i oi hi => ?_, fun i j oi oj pi pj hi hj hpi hpj hne how hni hnj => ?_, fun i oi pi k' hi hpi hk' => ?_, fun i oi pi hi hpi hn => ?_, r.fz, fun i oi pi hi hpi how' hn => ?_, r.bf⟩
          · rw [List.getElem?_set] at hi
            split at hi
            · rename_i hbi
              subst hbi
              split at hi
              · cases hi; exact ⟨pl, hpl, .inl ⟨n1, n2, hnc⟩⟩
              · cases hi
            · exact r.obj i oi hi
          · have back : ∀ (i : Nat) (oi : AObj) (pi : Place), (H.set b (some ⟨nc, true, pn⟩))[i]? = some (some oi) → M[i]? = some pi → pi.nil = false → H[i]? = some (some oi) := by
              intro i oi pi hi hpi hni
              rw [List.getElem?_set] at hi
              split at hi
              · rename_i hbi
                subst hbi
                rw [hpl] at hpi
                cases hpi
                rw [n1] at hni
                cases hni
              · exact hi
            exact r.sep i j oi oj pi pj (back i oi pi hi hpi hni) (back j oj pj hj hpj hnj) hpi hpj hne how hni hnj
          · obtain ⟨oi', h1, h2, h3⟩ := set_back (o := ⟨oc, true, pn⟩) hob hi
            exact r.pin i oi' pi k' h1 hpi (by rw [h3]; exact hk')
          · obtain ⟨oi', h1, h2, h3⟩ := set_back (o := ⟨oc, true, pn⟩) hob hi
            exact r.vis i oi' pi h1 hpi hn
          · obtain ⟨oi', h1, h2, h3⟩ := set_back (o := ⟨oc, true, pn⟩) hob hi
            exact r.fo i oi' pi h1 hpi (by rw [h2]; exact how') hn
        · obtain ⟨hfz, hoff, hB⟩ := hown rfl
          subst hfz
          obtain ⟨g1, g2⟩ := hrel _ hro
          have hll : l.length = pl.n := by
            have := congrArg List.length g1
            simp at this
            omega
          have hA := (hnn n1).1
          obtain ⟨A0, rfl⟩ : ∃ A0, A = some A0 := by cases A with | none => exact absurd rfl hA | some A0 => exact ⟨A0, rfl⟩
          by_cases hz : q0 * sz = 0
          · -- nothing is copied
            have hrun : (Builtin.copy_ c.argTypes o.type #[.slice (some A0) len cap, ρ z]).run P w = .ok (goInt (q0 : Nat)) w := by
              have hc0 : (xs.take (q0 * sz)).toArray = #[] := by rw [hz]; simp
              simp [Builtin.copy_, ht, run_underlying hu, hlx, run_sizeT hsz, hmeq, hcells, hc0, storeCells]
            have hself : (cells.toList.drop pl.off).take pl.n = (l.take off ++ l'.take (q0 * sz) ++ l.drop (off + q0 * sz)).map (.int k) := by
              rw [g1, hz]
              simp
            have hwr := r.write hob rfl hpl n1 hg (us := cells) rfl (c := nc) (hnew _ _ hself (fun y hy => by rw [hz] at hy; simp at hy; exact g2 y hy) (by rw [hz]; simp) rfl)
            have hid : w.setRow pl.blk cells = w := setRow_self w pl.blk cells el (0, 0) hg
            rw [hid] at hwr
            exact ⟨_, w, M, hexec _ _ hrun, Ext.refl M, hwr.1, Beneath.refl _ _, hr⟩
          · have hl0 : 0 < len := by
              rcases Nat.eq_zero_or_pos len with h0 | h0
              · have := hminz h0; rw [this] at hz; simp at hz
              · exact h0
            have hA1 := (hnn n1).2 (.inl hl0)
            cases hA1
            have hst := run_storeCells_at P pl.blk (pl.off + off) el (xs.take (q0 * sz)) 0 cells w hg (by simp; omega) (fun v hv => by
              rw [hxi] at hv
              obtain ⟨q, _, rfl⟩ := List.mem_map.1 hv
              rfl)
            simp only [Nat.add_zero] at hst
            have hrun : (Builtin.copy_ c.argTypes o.type #[.slice (some ⟨pl.blk, pl.off + off, none⟩) len cap, ρ z]).run P w = .ok (goInt (q0 : Nat)) (w.setRow pl.blk (cells.toList.take (pl.off + off) ++ xs.take (q0 * sz) ++ cells.toList.drop (pl.off + off + (xs.take (q0 * sz)).length)).toArray) := by
              simp [Builtin.copy_, ht, run_underlying hu, hlx, run_sizeT hsz, hmeq, hcells, hst]
            have hlt : (xs.take (q0 * sz)).length = q0 * sz := by simp; omega
            have gC : cells.toList.take pl.n = l.map (.int k) := by
              rw [← g1, hoff, List.drop_zero]
            have husz : (cells.toList.take (pl.off + off) ++ xs.take (q0 * sz) ++ cells.toList.drop (pl.off + off + (xs.take (q0 * sz)).length)).toArray.size = cells.size := by
              rw [hlt]
              simp
              omega
            have hlist : (((cells.toList.take (pl.off + off) ++ xs.take (q0 * sz) ++ cells.toList.drop (pl.off + off + (xs.take (q0 * sz)).length)).toArray.toList.drop pl.off).take pl.n) = (l.take off ++ l'.take (q0 * sz) ++ l.drop (off + q0 * sz)).map (.int k) := by
              rw [List.toList_toArray, hlt, hoff, List.map_append, List.map_append, ← hxi, List.map_take, List.map_drop, ← gC]
              simp only [Nat.zero_add, List.drop_zero]
              have hA : (List.take off cells.toList ++ List.take (q0 * sz) xs).length = off + q0 * sz := by rw [List.length_append, hlt]; simp; omega
              rw [List.take_append, List.take_of_length_le (show (List.take off cells.toList ++ List.take (q0 * sz) xs).length ≤ pl.n by omega), hA, List.take_take, Nat.min_eq_left (by omega), List.drop_take]
            have hwr := r.write hob rfl hpl n1 hg husz (c := nc) (hnew _ _ hlist (fun y hy => by
              simp only [List.mem_append] at hy
              rcases hy with (hy | hy) | hy
              · exact g2 y (List.mem_of_mem_take hy)
              · exact hxh y hy
              · exact g2 y (List.mem_of_mem_drop hy)) (by simp; omega) rfl)
            exact ⟨_, _, M, hexec _ _ hrun, Ext.refl M, hwr.1, hwr.2, hr⟩
      split at h
      · rename_i k l pn k' l' hob hwx
        split at h
        · rename_i hk
          subst hk
          cases h
          exact key _ k' l l' _ _ hob (fun vs hvs => hvs) hwx (fun vs l2 e1 e2 _ e4 => by subst e4; exact ⟨e1, e2⟩)
        · cases h
      · rename_i k n l pn k' l' hob hwx
        split at h
        · rename_i hk
          subst hk
          cases h
          have hn : l.length = n := by
            obtain ⟨pl', hpl', hok⟩ := r.obj b _ hob
            rcases hok with ⟨_, _, hro⟩ | ⟨_, cells, el, fz, hg, hs1, hs2, hro, hown⟩ <;>
            · simp only [RelO, RelC_single, RelX_is] at hro
              exact hro.1
          exact key _ k' l l' _ _ hob (fun vs hvs => by
            simp only [RelO, RelC_single, RelX_is] at hvs
            exact ⟨hvs.2.1, hvs.2.2⟩) hwx (fun vs l2 e1 e2 e3 e4 => by
            subst e4
            simp only [RelO, RelC_single, RelX_is]
            exact ⟨by rw [e3, hn], e1, e2⟩)
        · cases h
      · cases h
    · cases h
  · cases h

end Go.AE

/- A part of the proof, put together of my texts: Fw12, Fw12b, Fw12c, Fw13, Fw13b, Fw13c, Fw14. -/
import Derived.Laws.BytesArg
import Derived.Laws.IdiomStrings
import Derived.OrdersHeld
import Derived.StillTail
import Derived.Scope
import Derived.Test.YtcjfigcbloploaaRowDdsAgainP1
set_option linter.unusedVariables false
set_option linter.unusedSimpArgs false
namespace Go.AE
open Go Go.RowKit
def wholeC (H : Heap) : AV → Option Cont
  | .sl b off len sz c => match H[b]? with
    | some (some o) => if c = .own ∨ c = .whole then some o.c else
        match o.c with
        | .row k l => some (.row k ((l.drop off).take (mul1 len sz)))
        | .segs [.is k n l] => if off = 0 ∧ len * sz = n then some (.row k l) else some (.row k ((l.drop off).take (mul1 len sz)))
        | _ => none
    | _ => none
  | .nils => some (.segs [])
  | _ => none
def slLen : AV → Nat
  | .sl _ _ len _ _ => len
  | _ => 0
def Lies (w : World) (v : Value) (len sz : Nat) (us : List Value) : Prop :=
  us.length = len * sz ∧ ∃ A cap, v = .slice A len cap ∧ len ≤ cap ∧ (len * sz = 0 ∨ ∃ blk o cs el fz, A = some ⟨blk, o, none⟩ ∧ w.heap[blk]? = some (.cells cs el fz) ∧ o + len * sz ≤ cs.size ∧ us = (cs.toList.drop o).take (len * sz))
theorem wholeC_rel {M : List Place} {H : Heap} {B : Base} {w : World} (r : RelH M H B w) {x : AV} {v : Value} (hx : RelV M x v) {ct : Cont} (h : wholeC H x = some ct) {sz : Nat} (hsz : ∀ b off len s c, x = .sl b off len s c → s = sz) :
    ∃ us, RelO M ct us ∧ Lies w v (slLen x) sz us := by
  unfold wholeC at h
  split at h
  · rename_i b off len s c
    have hs := hsz _ _ _ _ _ rfl
    subst hs
    simp only [RelV, RelX] at hx
    obtain ⟨pl, A, cap, hpl, hv, hb, hcap, hnil, hnn, hfull, hown, hwhole, hlen⟩ := hx
    have hv : v = .slice A len cap := by simpa using hv
    split at h
    · rename_i o ho
      obtain ⟨pl', hpl', hok⟩ := r.obj b o ho
      rw [hpl] at hpl'; cases hpl'
      have base : ∃ all, RelO M o.c all ∧ all.length = pl.n ∧ (pl.nil = false → ∃ cs el fz, w.heap[pl.blk]? = some (.cells cs el fz) ∧ pl.off + pl.n ≤ cs.size ∧ all = (cs.toList.drop pl.off).take pl.n) := by
        rcases hok with ⟨a1, a2, a3⟩ | ⟨a1, cs, el, fz, a2, a3, a4, a5, _⟩
        · exact ⟨[], a3, by simp [a2], fun hn => by rw [hn] at a1; cases a1⟩
        · exact ⟨_, a5, by simp; omega, fun _ => ⟨cs, el, fz, a2, by omega, rfl⟩⟩
      obtain ⟨all, hall, hlall, hmem⟩ := base
      have part : ∀ us, us = (all.drop off).take (len * s) → Lies w v len s us := by
        intro us hus
        refine ⟨by rw [hus]; simp; omega, A, cap, hv, hcap, ?_⟩
        by_cases hz : len * s = 0
        · exact .inl hz
        · have hl0 : 0 < len := by
            rcases Nat.eq_zero_or_pos len with h0 | h0
            · rw [h0] at hz; simp at hz
            · exact h0
          have hn : pl.nil = false := by
            cases hq : pl.nil with
            | false => rfl
            | true => have := (hnil hq).2; omega
          obtain ⟨cs, el, fz, m1, m2, m3⟩ := hmem hn
          refine .inr ⟨pl.blk, pl.off + off, cs, el, fz, (hnn hn).2 (.inl hl0), m1, by omega, ?_⟩
          rw [hus, m3, sub_cells (by omega)]
      have ints : ∀ (k : IntKind) (l : List Int), (all = l.map (.int k) ∧ ∀ x ∈ l, k.has x) → RelO M (.row k ((l.drop off).take (len * s))) ((all.drop off).take (len * s)) := by
        intro k l hk
        refine ⟨?_, fun x hx => hk.2 x (List.mem_of_mem_drop (List.mem_of_mem_take hx))⟩
        rw [hk.1]
        simp [List.map_take, List.map_drop]
      split at h
      · rename_i hc
        cases h
        have h0 : off = 0 ∧ len * s = pl.n := by
          rcases hc with hc | hc
          · exact ⟨(hown hc).1, (hown hc).2.2.1⟩
          · exact hwhole hc
        refine ⟨all, hall, part all ?_⟩
        rw [h0.1, List.drop_zero, List.take_of_length_le (by omega)]
      · split at h
        · rename_i k l hoc
          cases h
          rw [hoc] at hall
          rw [mul1_eq]
          exact ⟨_, ints k l hall, part _ rfl⟩
        · rename_i k n l hoc
          rw [hoc] at hall
          simp only [RelO, RelC_single, RelX_is] at hall
          split at h
          · rename_i hz
            cases h
            refine ⟨all, ⟨hall.2.1, hall.2.2⟩, part all ?_⟩
            have : n = pl.n := by
              have := congrArg List.length hall.2.1
              simp at this
              omega
            rw [hz.1, List.drop_zero, List.take_of_length_le (by omega)]
          · cases h
            rw [mul1_eq]
            exact ⟨_, ints k l ⟨hall.2.1, hall.2.2⟩, part _ rfl⟩
        · cases h
    · cases h
  · cases h
    have hv : v = .slice none 0 0 := by simpa [RelV, RelX] using hx
    exact ⟨[], (RelC_nil (M := M)).2 rfl, by simp [slLen], none, 0, hv, Nat.le_refl _, .inl (by simp [slLen])⟩
  · cases h
theorem run_first {P : Program} {w : World} {v : Value} {len sz : Nat} {us : List Value} (h : Lies w v len sz us) (n : Nat) (hn : n ≤ len) (w' : World) (hb : ∀ (g : Nat) (ob : Obj), w.heap[g]? = some ob → w'.heap[g]? = some ob) :
    (Builtin.firstCells sz n v).run P w' = .ok (us.take (n * sz)).toArray w' := by
  obtain ⟨hl, A, cap, hv, hcap, hm⟩ := h
  subst hv
  have hle : n * sz ≤ len * sz := Nat.mul_le_mul_right _ hn
  cases A with
  | none =>
    have : n * sz = 0 := by
      rcases hm with hm | ⟨_, _, _, _, _, e, _⟩
      · omega
      · cases e
    simp [Builtin.firstCells, this]
  | some A =>
    rcases hm with hm | ⟨blk, o, cs, el, fz, e, hg, hle2, hus⟩
    · have : n * sz = 0 := by omega
      simp [Builtin.firstCells, this, loadCells, loadCellsFrom]
    · cases e
      have := run_cells (P := P) (hb _ _ hg) (o := o) (s := n * sz) (by omega)
      simp only [Builtin.firstCells, this, hus]
      congr 2
      rw [List.take_take, Nat.min_eq_left hle]
theorem EK.w_pos (e : EK) : 1 ≤ e.w := by cases e <;> simp [EK.w]
def appC : Cont → Cont → Option Cont
  | .row k l, .row k' l' => if k' = k then some (.row k (l ++ l')) else none
  | .drow d, .drow d' => if h : d'.e = d.e then some (.drow ⟨d.e, d.l ++ h ▸ d'.l⟩) else none
  | .segs [], c => some c
  | c, .segs [] => some c
  | .segs cs, .segs cs' => some (.segs (cs ++ cs'))
  | _, _ => none
theorem appC_rel {M : List Place} {a b c : Cont} {us vs : List Value} (h : appC a b = some c) (ha : RelO M a us) (hb : RelO M b vs) : RelO M c (us ++ vs) := by
  unfold appC at h
  split at h
  · split at h
    · rename_i hk
      subst hk
      cases h
      refine ⟨by rw [ha.1, hb.1]; simp, fun x hx => ?_⟩
      rcases List.mem_append.1 hx with hx | hx
      · exact ha.2 x hx
      · exact hb.2 x hx
    · cases h
  · split at h
    · rename_i d d' hk
      cases h
      cases d with
      | mk e l =>
        cases d' with
        | mk e' l' =>
          simp only at hk
          subst hk
          obtain ⟨a1, a2⟩ := ha
          obtain ⟨b1, b2⟩ := hb
          refine ⟨by simp [a1, b1, Nat.add_mul], fun i x hx => ?_⟩
          have hw := e'.w_pos
          simp only at hx a1 b1 a2 b2 ⊢
          rw [List.getElem?_append] at hx
          split at hx
          · rename_i hi
            have h1 := a2 i x hx
            have hm : i * e'.w + e'.w ≤ us.length := by rw [a1]; exact mul_lt hi
            rw [List.drop_append_of_le_length (by omega), List.take_append_of_le_length (by simp; omega)]
            exact h1
          · rename_i hi
            have h1 := b2 _ x hx
            rw [show i * e'.w = us.length + (i - l.length) * e'.w by
              rw [a1, ← Nat.add_mul, Nat.add_sub_cancel' (Nat.le_of_not_lt hi)], ← List.drop_drop, List.drop_left]
            exact h1
    · cases h
  · cases h
    simp only [RelO, RelC_nil] at ha
    subst ha
    simpa using hb
  · cases h
    simp only [RelO, RelC_nil] at hb
    subst hb
    simpa using ha
  · cases h
    exact RelC_append ha hb
  · cases h
theorem ek_one {M : List Place} : ∀ {e : EK} {x : e.den} {us : List Value}, e.rel M x us → us.length = e.w ∧ ∀ v ∈ us, v.oneCell' = true
  | .row k sz, x, us, r => by
    obtain ⟨v, rfl, _, _, _, rfl, _⟩ := r
    exact ⟨rfl, fun v hv => by simp at hv; subst hv; rfl⟩
  | .pair, x, us, r => by
    obtain ⟨rfl, _⟩ := r
    exact ⟨rfl, fun v hv => by simp at hv; rcases hv with rfl | rfl <;> rfl⟩
  | .img k sz, x, us, r => by
    obtain ⟨v, rfl, _, _, _, _, _, rfl, _⟩ := r
    exact ⟨rfl, fun v hv => by simp at hv; rcases hv with rfl | rfl | rfl <;> rfl⟩
  | .deep e, x, us, r => by
    obtain ⟨v, rfl, _, _, _, rfl, _⟩ := r
    exact ⟨rfl, fun v hv => by simp at hv; subst hv; rfl⟩
theorem drow_all {M : List Place} {d : EKs} {us : List Value} (hr : RelO M (.drow d) us) : ∀ v ∈ us, v.oneCell' = true := by
  obtain ⟨hl, h⟩ := hr
  intro v hv
  obtain ⟨j, hj, rfl⟩ := List.mem_iff_getElem.1 hv
  have hw := d.e.w_pos
  have hq : j / d.e.w < d.l.length := (Nat.div_lt_iff_lt_mul hw).2 (by rw [← hl]; exact hj)
  have h1 := ek_one (h (j / d.e.w) _ (List.getElem?_eq_getElem hq))
  refine h1.2 _ (List.mem_of_getElem? (i := j % d.e.w) ?_)
  rw [List.getElem?_take, if_pos (Nat.mod_lt _ hw), List.getElem?_drop, Nat.mul_comm, Nat.div_add_mod, List.getElem?_eq_getElem hj]
def contSt : Cont → Bool
  | .row _ _ => true
  | .segs cs => cs.all fun c => match c with | .is _ _ _ => true | c => scal c
  | .drow _ => true
theorem contSt_all {M : List Place} {c : Cont} {us : List Value} (h : contSt c = true) (hr : RelO M c us) : ∀ v ∈ us, v.oneCell' = true := by
  cases c with
  | row k l =>
    intro v hv
    rw [hr.1] at hv
    obtain ⟨z, _, rfl⟩ := List.mem_map.1 hv
    rfl
  | segs cs => exact storable_all hr h
  | drow d => exact drow_all hr
def szOk (x : AV) (sz : Nat) : Bool :=
  match x with
  | .sl _ _ _ s _ => decide (s = sz)
  | .nils => true
  | _ => false
theorem szOk_spec {x : AV} {sz : Nat} (h : szOk x sz = true) : ∀ b off len s c, x = .sl b off len s c → s = sz := by
  intro b off len s c e
  subst e
  simpa [szOk] using h
def wholeX (H : Heap) : AV → Option Cont
  | .fsl k _ l => some (.row k l)
  | .dsl d => some (.drow d)
  | x => wholeC H x
def slLenX : AV → Nat
  | .fsl _ 1 l => l.length
  | .fsl _ sz l => l.length / sz
  | .dsl d => d.l.length
  | x => slLen x
def szOkX (x : AV) (sz : Nat) : Bool :=
  match x with
  | .fsl _ s _ => decide (s = sz)
  | .dsl d => decide (d.e.w = sz)
  | x => szOk x sz
theorem wholeX_rel {M : List Place} {H : Heap} {B : Base} {w : World} (r : RelH M H B w) {x : AV} {v : Value} (hx : RelV M x v) {ct : Cont} (h : wholeX H x = some ct) {sz : Nat} (h1 : 1 ≤ sz) (hsz : szOkX x sz = true) :
    ∃ us, RelO M ct us ∧ Lies w v (slLenX x) sz us := by
  have old : wholeC H x = some ct → szOk x sz = true → slLenX x = slLen x → ∃ us, RelO M ct us ∧ Lies w v (slLenX x) sz us := by
    intro a b c
    rw [c]
    exact wholeC_rel r hx a (szOk_spec b)
  cases x <;> try exact old h hsz rfl
  case fsl k s l =>
    simp only [wholeX, Option.some.injEq] at h
    subst h
    simp only [szOkX, decide_eq_true_eq] at hsz
    subst hsz
    simp only [RelV, RelX] at hx
    obtain ⟨v', hv, A, len, cap, rfl, hcap, hlen, hi, hks, hz⟩ := hx
    have hv : v = .slice A len cap := by simpa using hv
    have hl : slLenX (.fsl k s l) = len := by
      have e : slLenX (.fsl k s l) = l.length / s := by
        unfold slLenX
        split <;> simp_all
      rw [e, hlen]
      exact Nat.mul_div_cancel _ h1
    rw [hl]
    refine ⟨l.map (.int k), ⟨rfl, hks⟩, by simpa using hlen, A, cap, hv, hcap, ?_⟩
    rcases hz with hz | ⟨blk, off, cs, el, fz, rfl, hz, hle, hcs⟩
    · left
      rw [show len = 0 by omega, Nat.zero_mul]
    · exact .inr ⟨blk, off, cs, el, fz, rfl, (r.fz _ _ hz).1, hle, hcs.symm⟩
  case dsl d =>
    simp only [wholeX, Option.some.injEq] at h
    subst h
    simp only [szOkX, decide_eq_true_eq] at hsz
    subst hsz
    simp only [RelV, RelX] at hx
    obtain ⟨v', hv, A, len, cap, rfl, hcap, hlen, hi, hz⟩ := hx
    have hv : v = .slice A len cap := by simpa using hv
    simp only [slLenX]
    rcases hz with hz | ⟨blk, off, cs, el, fz, rfl, hz, hle, hcs⟩
    · refine ⟨[], ⟨by simp [hlen, hz], fun i x hx => ?_⟩, by simp [hlen, hz], A, cap, by rw [hlen]; exact hv, by omega, .inl (by simp [hlen, hz])⟩
      have := (List.getElem?_eq_some_iff.1 hx).1
      omega
    · refine ⟨(cs.toList.drop off).take (len * d.e.w), ⟨by simp; rw [hlen]; omega, fun i x hx => ?_⟩, by simp; rw [hlen]; omega, some ⟨blk, off, none⟩, cap, by rw [hlen]; exact hv, by omega, .inr ⟨blk, off, cs, el, fz, rfl, (r.fz _ _ hz).1, by rw [hlen]; exact hle, by rw [hlen]⟩⟩
      have hi : i < len := by
        rw [← hlen]
        exact (List.getElem?_eq_some_iff.1 hx).1
      have hm : i * d.e.w + d.e.w ≤ len * d.e.w := mul_lt hi
      rw [sub_cells hm]
      exact hcs i x hx
def dstOk (H : Heap) : AV → Option (Bool × Option Nat)
  | .nils => some (false, none)
  | .sl b _ _ _ .own => match H[b]? with
    | some (some ⟨_, true, _⟩) => some (false, some b)
    | _ => none
  | .sl _ _ _ _ .full => some (true, none)
  | _ => none
def killO (H : Heap) : Option Nat → Heap
  | some b => H.set b none
  | none => H
def appB (P : Program) (H : Heap) (e : TypeId) (s : AV) (sz m : Nat) (cx : Cont) : Option (Bool × AV × Heap) :=
  match P.info? e, zeroC P e with
  | some i, some z =>
    if 1 ≤ sz ∧ 1 ≤ i.bytes ∧ i.bytes ≤ 64 ∧ szOk s sz = true ∧ wid z = sz then
      match wholeC H s, dstOk H s with
      | some cs, some (full, kill) => match appC cs cx with
        | some c => if contSt cx = true then
            some (decide (slLen s + m ≤ 1099511627776) && (if full then decide (0 < m) else true), .sl H.length 0 (slLen s + m) sz .own, killO H kill ++ [some ⟨c, true, none⟩])
          else none
        | none => none
      | _, _ => none
    else none
  | _, _ => none
def aappend (P : Program) (H : Heap) (ts : Array TypeId) (s x : AV) : Option (Bool × AV × Heap) :=
  match ts[0]?, ts[1]? with
  | some t, some t' => match P.underlying t, P.underlying t' with
    | some (.slice e), some (.slice _) => match sizeT P e with
      | some sz => if szOkX x sz = true then (match wholeX H x with
          | some cx => appB P H e s sz (slLenX x) cx
          | none => none) else none
      | none => none
    | some (.slice e), some .string => match sizeT P e, x with
      | some sz, .str l => if sz = 1 then appB P H e s sz l.length (.row .u8 l) else none
      | _, _ => none
    | some (.slice e), some (.int _) => match sizeT P e, x, zeroInts P e with
      | some sz, .int _ l n, some (k, m) => if m = sz then (appB P H e s sz (litN l n) (.row k (List.replicate (mul1 (litN l n) sz) 0))).map fun r => ((match l with
          | some p => decide (0 ≤ p) && decide (p ≤ 1099511627776)
          | none => decide (0 ≤ n) && decide (n ≤ 1099511627776)) && r.1, r.2) else none
      | _, _, _ => none
    | _, _ => none
  | _, _ => none
theorem growBy_le (newLen : Nat) : ∀ (rounds c : Nat), c ≤ newLen + (newLen + 768) / 4 → Builtin.growBy newLen rounds c ≤ newLen + (newLen + 768) / 4
  | 0, c, h => h
  | r + 1, c, h => by
    unfold Builtin.growBy
    split
    · exact h
    · exact growBy_le newLen r _ (by omega)
theorem nextslicecap_le (newLen old : Nat) (h : old < newLen) : Builtin.nextslicecap newLen old ≤ 2 * newLen + 1024 := by
  unfold Builtin.nextslicecap
  split
  · omega
  · split
    · omega
    · have := growBy_le newLen 4 old (by omega)
      omega
theorem run_askRoom {P : Program} (b : Nat) (w : World) : (askRoom b).run P w = .ok () w := by
  unfold askRoom
  split <;> simp [mark, Sem.run]
theorem RelH.regrow {M : List Place} {H : Heap} {B : Base} {w : World} (r : RelH M H B w) {b : Nat} {o : AObj} {pl : Place} (ho : H[b]? = some (some o)) (how : o.own = true) (hpl : M[b]? = some pl) (hnil : pl.nil = false)
    {cs : Array Value} {el : TypeId} {fz : Nat × Nat} (hg : w.heap[pl.blk]? = some (.cells cs el fz)) {us : Array Value} (husz : us.size = cs.size) {n : Nat} (hn : n ≤ us.size) {c : Cont} (hc : RelO M c (us.toList.take n)) :
    RelH (M ++ [⟨false, pl.blk, 0, n, us.size, noFz⟩]) (H.set b none ++ [some ⟨c, true, none⟩]) B (w.setRow pl.blk us) ∧ Beneath B w (w.setRow pl.blk us) := by
  obtain ⟨pl', hpl', hok⟩ := r.obj b o ho
  rw [hpl] at hpl'
  cases hpl'
  rcases hok with ⟨a1, _⟩ | ⟨_, cs', el', fz', hg', hs1, hs2, hro, hown⟩
  · rw [hnil] at a1; cases a1
  rw [hg] at hg'
  cases hg'
  obtain ⟨hfz, hoff, hB⟩ := hown how
  have hset : ∀ k, k ≠ pl.blk → (w.setRow pl.blk us).heap[k]? = w.heap[k]? := fun k hk => setRow_other w pl.blk k us (fun h => hk h)
  have hself := setRow_heap w pl.blk cs us el fz hg
  have hE : Ext M (M ++ [⟨false, pl.blk, 0, n, us.size, noFz⟩]) := Ext.snoc M _
  have hlen := r.len
  have back : ∀ (i : Nat) (oi : AObj), (H.set b none ++ [some ⟨c, true, none⟩])[i]? = some (some oi) → (i < M.length ∧ i ≠ b ∧ H[i]? = some (some oi)) ∨ (i = M.length ∧ oi = ⟨c, true, none⟩) := by
    intro i oi hi
    rw [List.getElem?_append] at hi
    split at hi
    · rename_i hlt
      simp at hlt
      rw [List.getElem?_set] at hi
      split at hi
      · split at hi <;> cases hi
      · rename_i hne
        exact .inl ⟨by omega, fun h => hne h.symm, hi⟩
    · rename_i hge
      simp at hge
      have : i - (H.set b none).length = 0 := by
        rcases Nat.eq_zero_or_pos (i - (H.set b none).length) with h | h
        · exact h
        · rw [List.getElem?_eq_none (by simp at h ⊢; omega)] at hi; cases hi
      rw [this] at hi
      simp at hi this
      exact .inr ⟨by omega, hi.symm⟩
  have place : ∀ (i : Nat) (pi : Place), (M ++ [⟨false, pl.blk, 0, n, us.size, noFz⟩])[i]? = some pi → i < M.length → M[i]? = some pi := by
    intro i pi hpi hlt
    rwa [List.getElem?_append_left hlt] at hpi
  have last : ∀ (pi : Place), (M ++ [⟨false, pl.blk, 0, n, us.size, noFz⟩])[M.length]? = some pi → pi.blk = pl.blk := by
    intro pi hpi
    simp at hpi
    rw [← hpi]
  refine ⟨⟨by simp [r.len], by simpa using r.base, fun i oi hi => ?_, fun i j oi oj pi pj hi hj hpi hpj hne how' hni hnj => ?_, fun i oi pi k hi hpi hk => ?_, fun i oi pi hi hpi hn => ?_,
    fun k ob hk => ⟨(hset k (fun e => (r.fo b o pl ho hpl how hnil).2 ob (e ▸ FzAt.snoc rfl hk))).trans (r.fz k ob (FzAt.snoc rfl hk)).1, (r.fz k ob (FzAt.snoc rfl hk)).2⟩, fun i oi pi hi hpi how' hn => ?_, by simpa using r.bf⟩, ⟨rfl, rfl, rfl, by simp, fun k _ hw => hset k (fun e => hw (e ▸ hB))⟩⟩
  · rcases back i oi hi with ⟨hlt, hne, hi'⟩ | ⟨rfl, rfl⟩
    · obtain ⟨pi, hpi, hoki⟩ := r.obj i oi hi'
      refine ⟨pi, hE _ _ hpi, ?_⟩
      rcases hoki with ⟨n1, n2, n3⟩ | ⟨n1, cs1, el1, fz1, g1, g2, g3, g4, g5⟩
      · exact .inl ⟨n1, n2, n3.mono hE⟩
      · refine .inr ⟨n1, cs1, el1, fz1, ?_, g2, g3, g4.mono hE, g5⟩
        rw [hset]
        · exact g1
        · exact fun h => r.sep b i o oi pl pi ho hi' hpl hpi (fun h => hne h.symm) how hnil n1 h.symm
    · refine ⟨⟨false, pl.blk, 0, n, us.size, noFz⟩, by simp, .inr ⟨rfl, us, el, fz, hself, rfl, by simpa using hn, ?_, fun _ => ⟨by rw [husz]; exact hfz, rfl, hB⟩⟩⟩
      simpa using hc.mono hE
  · rcases back i oi hi with ⟨hlt, hneb, hi'⟩ | ⟨rfl, rfl⟩ <;> rcases back j oj hj with ⟨hlt2, hneb2, hj'⟩ | ⟨rfl, rfl⟩
    · exact r.sep i j oi oj pi pj hi' hj' (place i pi hpi hlt) (place j pj hpj hlt2) hne how' hni hnj
    · rw [last pj hpj]
      exact fun h => r.sep b i o oi pl pi ho hi' hpl (place i pi hpi hlt) (fun h => hneb h.symm) how hnil hni h.symm
    · rw [last pi hpi]
      exact r.sep b j o oj pl pj ho hj' hpl (place j pj hpj hlt2) (fun h => hneb2 h.symm) how hnil hnj
    · exact absurd rfl hne
  · rcases back i oi hi with ⟨hlt, hneb, hi'⟩ | ⟨rfl, rfl⟩
    · exact r.pin i oi pi k hi' (place i pi hpi hlt) hk
    · cases hk
  · rcases back i oi hi with ⟨hlt, hneb, hi'⟩ | ⟨rfl, rfl⟩
    · exact r.vis i oi pi hi' (place i pi hpi hlt) hn
    · rw [last pi hpi]; exact r.vis b o pl ho hpl hnil
  · rcases back i oi hi with ⟨hlt, hneb, hi'⟩ | ⟨rfl, rfl⟩
    · exact ⟨(r.fo i oi pi hi' (place i pi hpi hlt) how' hn).1, fun ob h => (r.fo i oi pi hi' (place i pi hpi hlt) how' hn).2 ob (FzAt.snoc rfl h)⟩
    · rw [last pi hpi]; exact ⟨(r.fo b o pl ho hpl how hnil).1, fun ob h => (r.fo b o pl ho hpl how hnil).2 ob (FzAt.snoc rfl h)⟩
theorem append_run_fits {P : Program} {t t' e : TypeId} {d' : TypeDesc} {w : World} (hu : P.underlying t = some (.slice e)) (hu' : P.underlying t' = some d') (hd' : ∀ k, d' ≠ .int k) {sz : Nat} (hs : sizeT P e = some sz) {ts : Array TypeId} (h0 : ts[0]? = some t) (h1 : ts[1]? = some t')
    {base : Option Addr} {sLen sCap : Nat} {x : Value} {m : Nat} (hlx : (Builtin.lenOf x).run P w = .ok m w) {new : Array Value} (hnew : (Builtin.firstCells sz m x).run P w = .ok new w) (hfit : sLen + m ≤ sCap) {ty : TypeId} {w' : World}
    (hst : (match base with | some a => storeCells (a.add (sLen * sz)) new.toList | none => pure ()).run P w = .ok () w') :
    (Builtin.append_ ts ty #[.slice base sLen sCap, x]).run P w = .ok (.slice base (sLen + m) sCap) w' := by
  have hm : (match d' with | .int _ => true | _ => false) = false := by
    cases d' <;> first | rfl | exact absurd rfl (hd' _)
  cases base with
  | none =>
    simp only at hst
    simp [Builtin.append_, hm, h0, h1, run_underlying hu, run_underlying hu', run_sizeT hs, hlx, hfit, hnew] at hst ⊢
    exact hst
  | some a =>
    simp only at hst
    simp [Builtin.append_, hm, h0, h1, run_underlying hu, run_underlying hu', run_sizeT hs, hlx, hfit, hnew, hst]
theorem append_run_grows {P : Program} {t t' e : TypeId} {d' : TypeDesc} {w : World} (hu : P.underlying t = some (.slice e)) (hu' : P.underlying t' = some d') (hd' : ∀ k, d' ≠ .int k) {sz : Nat} (hs : sizeT P e = some sz) {i : TypeInfo} (hi : P.info? e = some i) {z : Value} (hz : ∀ w, (zeroValue e).run P w = .ok z w)
    {ts : Array TypeId} (h0 : ts[0]? = some t) (h1 : ts[1]? = some t') {base : Option Addr} {sLen sCap : Nat} {x : Value} {m : Nat} (hlx : (Builtin.lenOf x).run P w = .ok m w) {old new : Array Value}
    (hold : (Builtin.firstCells sz sLen (.slice base sLen sCap)).run P w.drew = .ok old w.drew) (hnew : (Builtin.firstCells sz m x).run P w.drew = .ok new w.drew)
    (hfit : ¬ sLen + m ≤ sCap) (hb1 : 1 ≤ i.bytes) (hb : i.bytes ≤ 64) (hneed : sLen + m ≤ 1099511627776) {ty : TypeId} :
    ∃ nc, sLen + m ≤ nc ∧
    (Builtin.append_ ts ty #[.slice base sLen sCap, x]).run P w = .ok (.slice (some ⟨w.heap.size, 0, none⟩) (sLen + m) nc) (w.drew.alloc (.cells (old ++ new ++ Builtin.zeroCells z.cells (nc - (sLen + m))) e)) := by
  have hcap := nextslicecap_le (sLen + m) sCap (by omega)
  have hbig : ¬ Builtin.nextslicecap (sLen + m) sCap * i.bytes > 2 ^ 48 := by
    have h2 : Builtin.nextslicecap (sLen + m) sCap * i.bytes ≤ (2 * (sLen + m) + 1024) * 64 := Nat.mul_le_mul hcap hb
    omega
  have hov : ¬ ((sLen + m : Nat) : Int) > IntKind.i64.max := by
    have : IntKind.i64.max = 9223372036854775807 := rfl
    omega
  refine ⟨Question.cut (.appendCap (sLen + m) sCap e) (w.tape w.drawn (.appendCap (sLen + m) sCap e)), ?_, ?_⟩
  · simp [Question.cut]
  · have hov2 : ¬ ((((sLen : Nat) : Int) + (m : Int)) > IntKind.i64.max) := by
      have : IntKind.i64.max = 9223372036854775807 := rfl
      omega
    have hask := fun (b : Nat) (w : World) => run_askRoom (P := P) b w
    have hb0 : i.bytes ≠ 0 := by omega
    have hfr : (Question.appendCap (sLen + m) sCap e).forced = false := rfl
    have hm : (match d' with | .int _ => true | _ => false) = false := by
      cases d' <;> first | rfl | exact absurd rfl (hd' _)
    simp [Builtin.append_, hm, h0, h1, run_underlying hu, run_underlying hu', run_sizeT hs, hlx, hfit, typeInfo, hi, hbig, hb0, hfr, hask, hold, hnew, hz, newRow, newObj, Sem.run]
theorem appendZ_fits {P : Program} {t t' e : TypeId} {kd kx : IntKind} {w : World} (hu : P.underlying t = some (.slice e)) (hu' : P.underlying t' = some (.int kd)) {sz : Nat} (hs : sizeT P e = some sz) {i : TypeInfo} (hi : P.info? e = some i) (hb : i.bytes ≤ 64) {ts : Array TypeId} (h0 : ts[0]? = some t) (h1 : ts[1]? = some t')
    {base : Option Addr} {sLen sCap : Nat} {x : Value} {n : Int} (hx : x = .int kx n) (n0 : 0 ≤ n) (n1 : n ≤ 1099511627776) (hwrap : IntKind.i64.wrap n = n) {z : Value} (hz : ∀ w, (zeroValue e).run P w = .ok z w) {k : IntKind} (hzz : (Builtin.zeroCells z.cells n.toNat).toList = List.replicate (n.toNat * sz) (.int k 0))
    (hfit : sLen + n.toNat ≤ sCap) {ty : TypeId} {w' : World}
    (hst : (match base with | some a => storeCells (a.add (sLen * sz)) (List.replicate (n.toNat * sz) (.int k 0)) | none => pure ()).run P w = .ok () w') :
    (Builtin.append_ ts ty #[.slice base sLen sCap, x]).run P w = .ok (.slice base (sLen + n.toNat) sCap) w' := by
  subst hx
  have hlt : ¬ n < 0 := by omega
  have hbig : ¬ (281474976710656 < n * (i.bytes : Int)) := by
    have h1 : n * (i.bytes : Int) ≤ n * 64 := Int.mul_le_mul_of_nonneg_left (by omega) n0
    omega
  rw [← hzz] at hst
  by_cases hq : n.toNat * sz = 0
  · have hz0 : (Builtin.zeroCells z.cells n.toNat).toList = [] := by rw [hzz, hq]; rfl
    rw [hz0] at hst
    cases base with
    | none =>
      simp only at hst
      simp [Builtin.append_, h0, h1, run_underlying hu, run_underlying hu', run_sizeT hs, asInt, asIntOf, hwrap, hlt, typeInfo, hi, hbig, hfit, hq] at hst ⊢
      exact hst
    | some a =>
      simp only at hst
      simp [Builtin.append_, h0, h1, run_underlying hu, run_underlying hu', run_sizeT hs, asInt, asIntOf, hwrap, hlt, typeInfo, hi, hbig, hfit, hq, hst]
  · cases base with
    | none =>
      simp only at hst
      simp [Builtin.append_, h0, h1, run_underlying hu, run_underlying hu', run_sizeT hs, asInt, asIntOf, hwrap, hlt, typeInfo, hi, hbig, hfit, hq, hz] at hst ⊢
      exact hst
    | some a =>
      simp only at hst
      simp [Builtin.append_, h0, h1, run_underlying hu, run_underlying hu', run_sizeT hs, asInt, asIntOf, hwrap, hlt, typeInfo, hi, hbig, hfit, hq, hz, hst]
theorem appendZ_grows {P : Program} {t t' e : TypeId} {kd kx : IntKind} {w : World} (hu : P.underlying t = some (.slice e)) (hu' : P.underlying t' = some (.int kd)) {sz : Nat} (hs : sizeT P e = some sz) {i : TypeInfo} (hi : P.info? e = some i) (hb1 : 1 ≤ i.bytes) (hb : i.bytes ≤ 64) {ts : Array TypeId} (h0 : ts[0]? = some t) (h1 : ts[1]? = some t')
    {base : Option Addr} {sLen sCap : Nat} {x : Value} {n : Int} (hx : x = .int kx n) (n0 : 0 ≤ n) (n1 : n ≤ 1099511627776) (hwrap : IntKind.i64.wrap n = n) {z zv : Value} (hz : ∀ w, (zeroValue e).run P w = .ok z w) (hzv : ∀ w, (zeroValue e).run P w = .ok zv w) {k : IntKind} (hzz : (Builtin.zeroCells z.cells n.toNat).toList = List.replicate (n.toNat * sz) (.int k 0))
    {old : Array Value} (hold : (Builtin.firstCells sz sLen (.slice base sLen sCap)).run P w.drew = .ok old w.drew)
    (hfit : ¬ sLen + n.toNat ≤ sCap) (hneed : sLen + n.toNat ≤ 1099511627776) {ty : TypeId} :
    ∃ nc, sLen + n.toNat ≤ nc ∧
    (Builtin.append_ ts ty #[.slice base sLen sCap, x]).run P w = .ok (.slice (some ⟨w.heap.size, 0, none⟩) (sLen + n.toNat) nc) (w.drew.alloc (.cells (old ++ (List.replicate (n.toNat * sz) (Value.int k 0)).toArray ++ Builtin.zeroCells zv.cells (nc - (sLen + n.toNat))) e)) := by
  subst hx
  have hlt : ¬ n < 0 := by omega
  have hbigZ : ¬ (281474976710656 < n * (i.bytes : Int)) := by
    have h1 : n * (i.bytes : Int) ≤ n * 64 := Int.mul_le_mul_of_nonneg_left (by omega) n0
    omega
  have hcap := nextslicecap_le (sLen + n.toNat) sCap (by omega)
  have hbig : ¬ Builtin.nextslicecap (sLen + n.toNat) sCap * i.bytes > 2 ^ 48 := by
    have h2 : Builtin.nextslicecap (sLen + n.toNat) sCap * i.bytes ≤ (2 * (sLen + n.toNat) + 1024) * 64 := Nat.mul_le_mul hcap hb
    omega
  obtain rfl : z = zv := by
    have := (hz w).symm.trans (hzv w)
    cases this
    rfl
  have ezz : (List.replicate (n.toNat * sz) (Value.int k 0)).toArray = Builtin.zeroCells z.cells n.toNat := by rw [← hzz]
  refine ⟨Question.cut (.appendCap (sLen + n.toNat) sCap e) (w.tape w.drawn (.appendCap (sLen + n.toNat) sCap e)), ?_, ?_⟩
  · simp [Question.cut]
  · have hov2 : ¬ ((((sLen : Nat) : Int) + ((n.toNat : Nat) : Int)) > IntKind.i64.max) := by
      have : IntKind.i64.max = 9223372036854775807 := rfl
      omega
    have hov3 : ¬ (9223372036854775807 < (sLen : Int) + max n 0) := by omega
    have hask := fun (b : Nat) (w : World) => run_askRoom (P := P) b w
    have hb0 : i.bytes ≠ 0 := by omega
    have hfr : (Question.appendCap (sLen + n.toNat) sCap e).forced = false := rfl
    rw [ezz]
    by_cases hq : n.toNat * sz = 0
    · have hz0 : Builtin.zeroCells z.cells n.toNat = #[] := by
        apply Array.ext'
        rw [hzz, hq]
        rfl
      simp [Builtin.append_, h0, h1, run_underlying hu, run_underlying hu', run_sizeT hs, asInt, asIntOf, hwrap, hlt, typeInfo, hi, hbigZ, hbig, hb0, hfr, hask, hold, hq, hz0, hfit, hzv, hov3, newRow, newObj, Sem.run]
    · simp [Builtin.append_, h0, h1, run_underlying hu, run_underlying hu', run_sizeT hs, asInt, asIntOf, hwrap, hlt, typeInfo, hi, hbigZ, hbig, hb0, hfr, hask, hold, hq, hfit, hzv, hov3, newRow, newObj, Sem.run]
theorem lenOf_lies {P : Program} {w : World} {v : Value} {len sz : Nat} {us : List Value} (h : Lies w v len sz us) (w' : World) : (Builtin.lenOf v).run P w' = .ok len w' := by
  obtain ⟨_, A, cap, hv, _⟩ := h
  subst hv
  simp [Builtin.lenOf]
theorem zeroCells_size (z : Array Value) (n : Nat) : (Builtin.zeroCells z n).size = n * z.size := by simp [Builtin.zeroCells]
theorem RelH.pushNil {M : List Place} {H : Heap} {B : Base} {w : World} (hk : RelH M H B w) {cn : Cont} (hcat0 : RelO M cn []) : RelH (M ++ [⟨true, 0, 0, 0, 0, noFz⟩]) (H ++ [some ⟨cn, true, none⟩]) B w := by
  have hE : Ext M (M ++ [⟨true, 0, 0, 0, 0, noFz⟩]) := Ext.snoc M _
  have hlen2 := hk.len
  refine ⟨by simp; omega, hk.base, fun i o' ho' => ?_, fun i j oi oj pi pj hi hj hpi hpj hne how hni hnj => ?_, fun i o pl k ho hp hk' => ?_, fun i o pl ho hp hn => ?_, fun k ob hh => hk.fz k ob (FzAt.snoc rfl hh), fun i o pl ho hp how hn => ?_, hk.bf⟩
  · rw [List.getElem?_append] at ho'
    split at ho'
    · obtain ⟨pi, hpi, hoki⟩ := hk.obj i o' ho'
      refine ⟨pi, hE _ _ hpi, ?_⟩
      rcases hoki with ⟨n1, n2, n3⟩ | ⟨n1, cs1, el1, fz1, g1, g2, g3, g4, g5⟩
      · exact .inl ⟨n1, n2, n3.mono hE⟩
      · exact .inr ⟨n1, cs1, el1, fz1, g1, g2, g3, g4.mono hE, g5⟩
    · rename_i hge
      have h3 : i - H.length = 0 := by
        rcases Nat.eq_zero_or_pos (i - H.length) with h | h
        · exact h
        · rw [List.getElem?_eq_none (by simp; omega)] at ho'; cases ho'
      rw [h3] at ho'
      simp at ho'
      subst ho'
      refine ⟨⟨true, 0, 0, 0, 0, noFz⟩, ?_, .inl ⟨rfl, rfl, hcat0.mono hE⟩⟩
      have : i = M.length := by omega
      subst this
      simp
  · have old : ∀ (i : Nat) (oi : AObj) (pi : Place), (H ++ [some ⟨cn, true, none⟩])[i]? = some (some oi) → (M ++ [⟨true, 0, 0, 0, 0, noFz⟩])[i]? = some pi → pi.nil = false → H[i]? = some (some oi) ∧ M[i]? = some pi := by
      intro i oi pi hi hpi hni
      by_cases hlt : i < M.length
      · rw [List.getElem?_append_left (by omega)] at hi
        rw [List.getElem?_append_left hlt] at hpi
        exact ⟨hi, hpi⟩
      · exfalso
        rw [List.getElem?_append_right (by omega)] at hpi
        cases hq2 : i - M.length with
        | zero => rw [hq2] at hpi; simp at hpi; subst hpi; cases hni
        | succ k => rw [hq2] at hpi; simp at hpi
    obtain ⟨b1, b2⟩ := old i oi pi hi hpi hni
    obtain ⟨c1, c2⟩ := old j oj pj hj hpj hnj
    exact hk.sep i j oi oj pi pj b1 c1 b2 c2 hne how hni hnj
  · rcases snoc_cases hk.len ho hp with ⟨h1, h2⟩ | ⟨h, rfl⟩
    · exact hk.pin i o pl k h1 h2 hk'
    · cases h; cases hk'
  · rcases snoc_cases hk.len ho hp with ⟨h1, h2⟩ | ⟨h, rfl⟩
    · exact hk.vis i o pl h1 h2 hn
    · cases hn
  · rcases snoc_cases hk.len ho hp with ⟨h1, h2⟩ | ⟨h, rfl⟩
    · exact ⟨(hk.fo i o pl h1 h2 how hn).1, fun ob h => (hk.fo i o pl h1 h2 how hn).2 ob (FzAt.snoc rfl h)⟩
    · cases hn
theorem relV_nilSl {M : List Place} {H : Heap} {B : Base} {w : World} (r : RelH M H B w) (sz : Nat) : RelV (M ++ [⟨true, 0, 0, 0, 0, noFz⟩]) (.sl H.length 0 0 sz .own) (.slice none 0 0) := by
  simp only [RelV, RelX]
  refine ⟨⟨true, 0, 0, 0, 0, noFz⟩, none, 0, by rw [r.len]; simp, rfl, by simp, by simp, fun _ => ⟨fun _ => rfl, rfl⟩, fun h => (by cases h), fun h => (by cases h), fun _ => ⟨trivial, rfl, by simp, by simp⟩, fun h => (by cases h), by rw [has_iff]; simp [loB, hiB]⟩
theorem appB_sound {P : Program} {M : List Place} {H : Heap} {B : Base} {w : World} (r : RelH M H B w) {ρ : Operand → Value} {o : Oper} {c : Call} (ho : o.op = .call c) (hc : c.callee = .builtin .append) {y z : Operand} (ha : c.args = #[y, z]) {s : AV} (hs : RelV M s (ρ y))
    {e : TypeId} {sz m : Nat} {cx : Cont} {xs : List Value} (hxs : RelO M cx xs) (hlxs : xs.length = m * sz)
    (fits : ∀ (base : Option Addr) (sLen sCap : Nat) (w' : World), sLen + m ≤ sCap → (match base with | some a => storeCells (a.add (sLen * sz)) xs | none => pure ()).run P w = .ok () w' →
      (Builtin.append_ c.argTypes o.type #[.slice base sLen sCap, ρ z]).run P w = .ok (.slice base (sLen + m) sCap) w')
    (grows : ∀ (zv : Value) (i : TypeInfo), P.info? e = some i → (∀ w, (zeroValue e).run P w = .ok zv w) → 1 ≤ i.bytes → i.bytes ≤ 64 → ∀ (base : Option Addr) (sLen sCap : Nat) (old : Array Value),
      (Builtin.firstCells sz sLen (.slice base sLen sCap)).run P w.drew = .ok old w.drew → ¬ sLen + m ≤ sCap → sLen + m ≤ 1099511627776 →
      ∃ nc, sLen + m ≤ nc ∧ (Builtin.append_ c.argTypes o.type #[.slice base sLen sCap, ρ z]).run P w = .ok (.slice (some ⟨w.heap.size, 0, none⟩) (sLen + m) nc) (w.drew.alloc (.cells (old ++ xs.toArray ++ Builtin.zeroCells zv.cells (nc - (sLen + m))) e)))
    {v' : AV} {H' : Heap} {req : Bool} (h : appB P H e s sz m cx = some (req, v', H')) (hreq : req = true) :
    ∃ v w' M', (execOp ρ o).run P w = .ok (.value v) w' ∧ Ext M M' ∧ RelH M' H' B w' ∧ Beneath B w w' ∧ RelV M' v' v := by
  subst hreq
  unfold appB at h
  split at h
  · rename_i i zc hi hzc
    split at h
    · rename_i hcond
      obtain ⟨h1s, hb1, hb64, hso, hwz⟩ := hcond
      split at h
      · rename_i cs full kill hcs hdst
        split at h
        · rename_i cn hcn
          split at h
          · rename_i hst
            obtain ⟨us, hus, lus⟩ := wholeC_rel r hs hcs (szOk_spec hso)
            simp only [Option.some.injEq, Prod.mk.injEq, Bool.and_eq_true, decide_eq_true_eq] at h
            obtain ⟨⟨hneed, hfull⟩, hv', hH'⟩ := h
            have hone := contSt_all hst hxs
            have hcat := appC_rel hcn hus hxs
            obtain ⟨_, zv, _, _, hzrun, hzrel⟩ := zeroC_rel hzc
            have hzs : zv.cells.size = sz := by have := RelC_length (hzrel M); simp at this; omega
            generalize slLen s = n at *
            have hlus := lus.1
            obtain ⟨A, cap, hv, hcap, hmem⟩ := lus.2
            have hhas : IntKind.i64.has ((n + m : Nat) : Int) := by rw [has_iff]; simp only [loB, hiB]; omega
            have hexec : ∀ w1 v1, (Builtin.append_ c.argTypes o.type #[.slice A n cap, ρ z]).run P w = .ok v1 w1 → (execOp ρ o).run P w = .ok (.value v1) w1 := by
              intro w1 v1 hrun
              have hargs : c.args.map ρ = #[.slice A n cap, ρ z] := by simp [ha, hv]
              simp [execOp, ho, resolve, hc, invoke, builtin, hargs, hrun]
            rw [← hv', ← hH']
            by_cases hfit : n + m ≤ cap
            · 
              cases s <;> simp only [dstOk, reduceCtorEq, Option.some.injEq, Prod.mk.injEq] at hdst
              case sl b off len s' cc =>
                have hs' := szOk_spec hso _ _ _ _ _ rfl
                subst hs'
                have hs0 := hs
                simp only [RelV, RelX] at hs0
                obtain ⟨pl, A', cap', hpl, hv2, hb, hcap', hnil, hnn, hff, hown, hwhole, hlen⟩ := hs0
                have hv2 : ρ y = .slice A' len cap' := by simpa using hv2
                rw [hv] at hv2
                injection hv2 with e1 e2 e3
                subst e1; subst e2; subst e3
                cases cc <;> simp only [Option.some.injEq, Prod.mk.injEq, reduceCtorEq] at hdst
                case full =>
                  obtain ⟨rfl, rfl⟩ := hdst
                  have := hff rfl
                  simp only [if_true, decide_eq_true_eq] at hfull
                  omega
                case own =>
                  split at hdst
                  case h_2 => cases hdst
                  rename_i c0 hoH
                  simp only [Option.some.injEq, Prod.mk.injEq] at hdst
                  obtain ⟨rfl, rfl⟩ := hdst
                  obtain ⟨d1, d2, d3, d4⟩ := hown rfl
                  cases hq : pl.nil with
                  | true =>
                    obtain ⟨f1, f2⟩ := hnil hq
                    have f1 := f1 rfl
                    subst f1; subst f2
                    have hz0 : n = 0 ∧ m = 0 := by omega
                    obtain ⟨rfl, rfl⟩ := hz0
                    have hrun := fits none 0 0 w (by omega) rfl
                    simp only [killO]
                    have hk := r.kill b
                    refine ⟨_, w, M ++ [⟨true, 0, 0, 0, 0, noFz⟩], hexec _ _ hrun, Ext.snoc M _, ?_, Beneath.refl _ _, ?_⟩
                    · have hcat0 : RelO M cn [] := by
                        have h1 : us = [] := by apply List.eq_nil_of_length_eq_zero; omega
                        have h2 : xs = [] := by apply List.eq_nil_of_length_eq_zero; omega
                        subst h1; subst h2
                        simpa using hcat
                      exact hk.pushNil hcat0
                    · have := relV_nilSl r s'
                      simpa using this
                  | false =>
                    have hA := (hnn hq).2 (.inr rfl)
                    subst hA
                    have hob : ∃ o', H[b]? = some (some o') ∧ o'.own = true := ⟨_, hoH, rfl⟩
                    obtain ⟨o', ho', how'⟩ := hob
                    obtain ⟨pl', hpl', hok⟩ := r.obj b o' ho'
                    rw [hpl] at hpl'; cases hpl'
                    rcases hok with ⟨n1, _⟩ | ⟨_, cells, el, fz, hg, hs1, hs2, hro, hown2⟩
                    · rw [hq] at n1; cases n1
                    obtain ⟨hfz, _, hB⟩ := hown2 how'
                    have hle : (n + m) * s' ≤ cap * s' := Nat.mul_le_mul_right _ hfit
                    have hsum : n * s' + m * s' = (n + m) * s' := by rw [Nat.add_mul]
                    have hstore := run_storeCells_fz P pl.blk (n * s') el fz xs 0 cells w hg hfz (by simp; omega) hone
                    simp only [Nat.add_zero] at hstore
                    have hadd : (⟨pl.blk, pl.off + off, none⟩ : Addr).add (n * s') = ⟨pl.blk, n * s', none⟩ := by rw [addr_add, d1, d2]; simp
                    have hrun := fits (some ⟨pl.blk, pl.off + off, none⟩) n cap (w.setRow pl.blk (cells.toList.take (n * s') ++ xs ++ cells.toList.drop (n * s' + xs.length)).toArray) hfit (by simp only [hadd]; exact hstore)
                    have husz : (cells.toList.take (n * s') ++ xs ++ cells.toList.drop (n * s' + xs.length)).toArray.size = cells.size := by simp; omega
                    have husE : us = cells.toList.take (n * s') := by
                      rcases hmem with hm | ⟨blk, o2, cs2, el2, fz2, e, hg2, hle2, hus2⟩
                      · have : us = [] := by apply List.eq_nil_of_length_eq_zero; omega
                        rw [this, hm]; rfl
                      · injection e with e
                        injection e with e1 e2
                        subst e1
                        rw [hg] at hg2
                        cases hg2
                        rw [hus2, ← e2, d1, d2]
                        simp
                    obtain ⟨k1, k2⟩ := r.regrow ho' how' hpl hq hg (us := (cells.toList.take (n * s') ++ xs ++ cells.toList.drop (n * s' + xs.length)).toArray) husz (n := (n + m) * s') (by rw [husz]; omega) (c := cn) (by
                      rw [List.toList_toArray, List.take_append, List.take_of_length_le (by simp; omega), ← husE, show (n + m) * s' - (us ++ xs).length = 0 by simp; omega]
                      simpa using hcat)
                    refine ⟨_, _, _, hexec _ _ hrun, Ext.snoc M _, k1, k2, ?_⟩
                    simp only [RelV, RelX]
                    refine ⟨⟨false, pl.blk, 0, (n + m) * s', (cells.toList.take (n * s') ++ xs ++ cells.toList.drop (n * s' + xs.length)).toArray.size, noFz⟩, _, cap, by rw [r.len]; simp, rfl, by simp, hfit, fun h => (by cases h), fun _ => ⟨by simp, fun _ => by simp [d1, d2]⟩, fun h => (by cases h), fun _ => ⟨trivial, rfl, rfl, by rw [husz]; show cap * s' ≤ cells.size; omega⟩, fun h => (by cases h), hhas⟩
              case nils =>
                obtain ⟨rfl, rfl⟩ := hdst
                have hv2 : ρ y = .slice none 0 0 := by simpa [RelV, RelX] using hs
                rw [hv] at hv2
                injection hv2 with e1 e2 e3
                subst e1; subst e2; subst e3
                have hz0 : m = 0 := by omega
                subst hz0
                have hrun := fits none 0 0 w (by omega) rfl
                simp only [killO]
                refine ⟨_, w, M ++ [⟨true, 0, 0, 0, 0, noFz⟩], hexec _ _ hrun, Ext.snoc M _, ?_, Beneath.refl _ _, relV_nilSl r sz⟩
                have h1 : us = [] := by apply List.eq_nil_of_length_eq_zero; omega
                have h2 : xs = [] := by apply List.eq_nil_of_length_eq_zero; omega
                subst h1; subst h2
                exact r.pushNil (by simpa using hcat)
            · 
              have hold := run_first (P := P) lus n (Nat.le_refl _) w.drew (fun _ _ h => h)
              rw [List.take_of_length_le (by omega), hv] at hold
              obtain ⟨nc, hnc, hrun⟩ := grows zv i hi hzrun hb1 hb64 A n cap _ hold hfit hneed
              have hsum : n * sz + m * sz = (n + m) * sz := by rw [Nat.add_mul]
              have hb0 : Below w.heap.size w w.drew := (Below.refl _ _).drew
              have rk : RelH M (killO H kill) B w.drew := by
                have := r.below hb0
                cases kill with
                | none => exact this
                | some b => exact this.kill b
              have hcsz : (us.toArray ++ xs.toArray ++ Builtin.zeroCells zv.cells (nc - (n + m))).size = nc * sz := by
                simp [zeroCells_size, hzs, hlus, hlxs]
                rw [hsum, ← Nat.add_mul]
                congr 1
                omega
              have hle : (n + m) * sz ≤ nc * sz := Nat.mul_le_mul_right _ hnc
              obtain ⟨a1, a2, a3⟩ := rk.alloc (c := cn) (cs := us.toArray ++ xs.toArray ++ Builtin.zeroCells zv.cells (nc - (n + m))) (el := e) (n := (n + m) * sz) (by omega) (by
                simp only [Array.toList_append]
                rw [List.take_append, List.take_of_length_le (by simp; omega), show (n + m) * sz - (us ++ xs).length = 0 by simp; omega]
                simpa using hcat) true
              have hkl : (killO H kill).length = H.length := by cases kill <;> simp [killO]
              refine ⟨_, _, _, hexec _ _ hrun, a2, a1, (Beneath.of hb0).trans a3, ?_⟩
              have := relV_newSl rk (len := n + m) (sz := sz) (cap := nc) (size := (us.toArray ++ xs.toArray ++ Builtin.zeroCells zv.cells (nc - (n + m))).size) hnc (by omega) hhas
              rw [hkl] at this
              exact this
          · cases h
        · cases h
      · cases h
    · cases h
  · cases h
theorem aappend_sound {P : Program} {M : List Place} {H : Heap} {B : Base} {w : World} (r : RelH M H B w) {ρ : Operand → Value} {o : Oper} {c : Call} (ho : o.op = .call c) (hc : c.callee = .builtin .append) {y z : Operand} (ha : c.args = #[y, z]) {s x : AV} (hs : RelV M s (ρ y)) (hx : RelV M x (ρ z))
    {v' : AV} {H' : Heap} {req : Bool} (h : aappend P H c.argTypes s x = some (req, v', H')) (hreq : req = true) :
    ∃ v w' M', (execOp ρ o).run P w = .ok (.value v) w' ∧ Ext M M' ∧ RelH M' H' B w' ∧ Beneath B w w' ∧ RelV M' v' v := by
  unfold aappend at h
  split at h
  · rename_i t t' h0 h1
    split at h
    · rename_i e e' hu hu'
      split at h
      · rename_i sz hsz
        split at h
        · rename_i hxo
          split at h
          · rename_i cx hcx
            have h1s : 1 ≤ sz := by
              unfold appB at h
              split at h
              · split at h
                · rename_i hcond; exact hcond.1
                · cases h
              · cases h
            obtain ⟨xs, hxs, lxs⟩ := wholeX_rel r hx hcx h1s hxo
            have hnew := fun w' hw => run_first (P := P) lxs (slLenX x) (Nat.le_refl _) w' hw
            have hlen := lxs.1
            rw [List.take_of_length_le (by omega)] at hnew
            exact appB_sound r ho hc ha hs hxs lxs.1 (fun base sLen sCap w' hfit hst => append_run_fits (P := P) hu hu' (fun k q => by cases q) hsz h0 h1 (lenOf_lies lxs w) (hnew w (fun _ _ h => h)) hfit hst)
              (fun zv i hi hz hb1 hb64 base sLen sCap old hold hfit hneed => append_run_grows (P := P) hu hu' (fun k q => by cases q) hsz hi hz h0 h1 (lenOf_lies lxs w) hold (hnew w.drew (fun _ _ h => h)) hfit hb1 hb64 hneed) h hreq
          · cases h
        · cases h
      · cases h
    · rename_i e hu hu'
      split at h
      · rename_i sz l hsz
        split at h
        · rename_i h1s
          subst h1s
          simp only [RelV, RelX] at hx
          obtain ⟨hv, hb, _⟩ := hx
          have hv : ρ z = .string (mkS l) := by simpa using hv
          have hlen : ∀ w' : World, (Builtin.lenOf (ρ z)).run P w' = .ok l.length w' := fun w' => by rw [hv]; simp [Builtin.lenOf, mkS_size]
          have hnew : ∀ w' : World, (Builtin.firstCells 1 l.length (ρ z)).run P w' = .ok (l.map (Value.int .u8)).toArray w' := fun w' => by
            rw [hv]
            have e : ((mkS l).extract 0 l.length).data.map (fun b => Value.int .u8 b.toNat) = (l.map (Value.int .u8)).toArray := by
              have e0 : ((mkS l).extract 0 l.length).data = (mkS l).data := by
                have := mkS_size l
                simp only [ByteArray.size] at this
                simp [ByteArray.data_extract, this]
              rw [e0]
              apply Array.ext'
              simp only [mkS, Array.toList_map, List.map_map]
              refine List.map_congr_left fun x hx => ?_
              simp only [Function.comp]
              rw [u8_back (hb x hx)]
            simp only [Builtin.firstCells, e]
            rfl
          exact appB_sound (cx := .row .u8 l) r ho hc ha hs (xs := l.map (Value.int .u8)) ⟨rfl, fun x hx => by rw [has_iff]; have := hb x hx; simp only [loB, hiB]; omega⟩ (by simp)
            (fun base sLen sCap w' hfit hst => append_run_fits (P := P) hu hu' (fun k q => by cases q) hsz h0 h1 (hlen w) (hnew w) hfit hst)
            (fun zv i hi hz hb1 hb64 base sLen sCap old hold hfit hneed => append_run_grows (P := P) hu hu' (fun k q => by cases q) hsz hi hz h0 h1 (hlen w) hold (hnew w.drew) hfit hb1 hb64 hneed) h hreq
        · cases h
      · cases h
    · rename_i e kd hu hu'
      split at h
      · rename_i sz kx l n k m hsz hzi
        split at h
        · rename_i hms
          subst hms
          simp only [Option.map_eq_some_iff, Prod.mk.injEq] at h
          obtain ⟨⟨r1, r2⟩, h, hq, hr2⟩ := h
          subst hreq
          obtain ⟨e1, g1, l1⟩ := relV_int hx
          obtain ⟨zv0, hzrun, hcells, hsz2, hm1, hk0⟩ := zeroInts_spec hzi
          simp only [Bool.and_eq_true] at hq
          obtain ⟨hn, hr1⟩ := hq
          have hn : 0 ≤ n ∧ n ≤ 1099511627776 := by
            cases l with
            | none => simpa using hn
            | some p =>
              have := l1 p rfl
              subst this
              simpa using hn
          have hln : litN l n = n.toNat := by
            cases l with
            | none => rfl
            | some p => have := l1 p rfl; subst this; rfl
          rw [hln, mul1_eq] at h
          have hwrap : IntKind.i64.wrap n = n := wrap_id (by rw [has_iff]; simp only [loB, hiB]; omega)
          obtain ⟨i0, hi0, hb0⟩ : ∃ i : TypeInfo, P.info? e = some i ∧ i.bytes ≤ 64 := by
            unfold appB at h
            split at h
            · rename_i i _ hi _
              split at h
              · rename_i hcond; exact ⟨i, hi, hcond.2.2.1⟩
              · cases h
            · cases h
          have hzz : ∀ N, (Builtin.zeroCells zv0.cells N).toList = List.replicate (N * m) (.int k 0) := fun N => by
            have hc2 : zv0.cells.size = m := by have := congrArg List.length hcells; simpa using this
            have := zero_row hcells hm1 (N * m)
            unfold Builtin.zeroCells
            rw [hc2] at *
            exact this
          refine appB_sound (cx := .row k (List.replicate (n.toNat * m) 0)) (v' := v') (H' := H') (req := r1) r ho hc ha hs (xs := List.replicate (n.toNat * m) (.int k 0)) (m := n.toNat) (sz := m) (e := e) ⟨by simp, fun x hx => by rw [(List.mem_replicate.1 hx).2]; exact hk0⟩ (by simp) ?_ ?_ (by rw [h]; rw [← hr2]) hr1
          · intro base sLen sCap w' hfit hst
            exact appendZ_fits hu hu' hsz hi0 hb0 h0 h1 e1 hn.1 hn.2 hwrap hzrun (hzz n.toNat) hfit hst
          · intro zv i hi hz hb1 hb64 base sLen sCap old hold hfit hneed
            exact appendZ_grows hu hu' hsz hi hb1 hb64 h0 h1 e1 hn.1 hn.2 hwrap hzrun hz (hzz n.toNat) hold hfit hneed
        · cases h
      · cases h
    · cases h
  · cases h
def wholeS (H : Heap) : AV → Option Cont
  | .str l => some (.row .u8 l)
  | x => wholeX H x
def slLenS : AV → Nat
  | .str l => l.length
  | x => slLenX x
def szOkS (x : AV) (sz : Nat) : Bool :=
  match x with
  | .str _ => decide (1 = sz)
  | x => szOkX x sz
structure Gives (P : Program) (w : World) (v : Value) (m sz : Nat) (xs : List Value) : Prop where
  len : xs.length = m * sz
  lenOf : (Builtin.lenOf v).run P w = .ok m w
  first : ∀ n, n ≤ m → (Builtin.firstCells sz n v).run P w = .ok (xs.take (n * sz)).toArray w
theorem run_first_str {P : Program} {l : List Int} (hb : ∀ x ∈ l, 0 ≤ x ∧ x ≤ 255) (n : Nat) (w : World) (sz : Nat) : (Builtin.firstCells sz n (.string (mkS l))).run P w = .ok ((l.map (Value.int .u8)).take n).toArray w := by
  have e : ((mkS l).extract 0 n).data.map (fun b => Value.int .u8 b.toNat) = ((l.map (Value.int .u8)).take n).toArray := by
    apply Array.ext'
    simp only [ByteArray.data_extract, mkS, Array.toList_map, Array.toList_extract, List.extract_eq_take_drop, List.drop_zero, Nat.sub_zero, ← List.map_take, List.map_map]
    refine List.map_congr_left fun x hx => ?_
    simp only [Function.comp]
    rw [u8_back (hb x (List.mem_of_mem_take hx))]
  simp only [Builtin.firstCells, e]
  rfl
theorem wholeS_rel {P : Program} {M : List Place} {H : Heap} {B : Base} {w : World} (r : RelH M H B w) {x : AV} {v : Value} (hx : RelV M x v) {ct : Cont} (h : wholeS H x = some ct) {sz : Nat} (h1 : 1 ≤ sz) (hsz : szOkS x sz = true) :
    ∃ us, RelO M ct us ∧ Gives P w v (slLenS x) sz us := by
  have old : wholeX H x = some ct → szOkX x sz = true → slLenS x = slLenX x → ∃ us, RelO M ct us ∧ Gives P w v (slLenS x) sz us := by
    intro a b c
    rw [c]
    obtain ⟨us, h1, h2⟩ := wholeX_rel r hx a h1 b
    exact ⟨us, h1, h2.1, lenOf_lies h2 w, fun n hn => run_first h2 n hn w (fun _ _ h => h)⟩
  cases x <;> try exact old h hsz rfl
  case str l =>
    simp only [wholeS, Option.some.injEq] at h
    subst h
    simp only [szOkS, decide_eq_true_eq] at hsz
    subst hsz
    simp only [RelV, RelX] at hx
    obtain ⟨hv, hb, _⟩ := hx
    have hv : v = .string (mkS l) := by simpa using hv
    subst hv
    refine ⟨l.map (Value.int .u8), ⟨rfl, fun x hx => by rw [has_iff]; have := hb x hx; simp only [loB, hiB]; omega⟩, by simp [slLenS], by simp [Builtin.lenOf, mkS_size, slLenS], fun n hn => ?_⟩
    rw [Nat.mul_one]
    exact run_first_str hb n w 1
def acopy (P : Program) (H : Heap) (ts : Array TypeId) (s x : AV) : Option (AV × Heap) :=
  match s, ts[0]? with
  | .sl b off len sz _, some t =>
    if elemOfSl P t = some sz ∧ 1 ≤ sz ∧ szOkS x sz = true then
      match H[b]?, wholeS H x with
      | some (some ⟨.row k l, true, pn⟩), some (.row k' l') => if k' = k then some (.int .i64 none (min (slLenS x) len : Nat), H.set b (some ⟨.row k (l.take off ++ l'.take (mul1 (min (slLenS x) len) sz) ++ l.drop (off + mul1 (min (slLenS x) len) sz)), true, pn⟩)) else none
      | some (some ⟨.segs [.is k n l], true, pn⟩), some (.row k' l') => if k' = k then some (.int .i64 none (min (slLenS x) len : Nat), H.set b (some ⟨.segs [.is k n (l.take off ++ l'.take (mul1 (min (slLenS x) len) sz) ++ l.drop (off + mul1 (min (slLenS x) len) sz))], true, pn⟩)) else none
      | _, _ => none
    else none
  | _, _ => none
theorem acopy_sound {P : Program} {M : List Place} {H : Heap} {B : Base} {w : World} (r : RelH M H B w) {ρ : Operand → Value} {o : Oper} {c : Call} (ho : o.op = .call c) (hc : c.callee = .builtin .copy) {y z : Operand} (ha : c.args = #[y, z]) {s x : AV} (hs : RelV M s (ρ y)) (hx : RelV M x (ρ z))
    {v' : AV} {H' : Heap} (h : acopy P H c.argTypes s x = some (v', H')) :
    ∃ v w' M', (execOp ρ o).run P w = .ok (.value v) w' ∧ Ext M M' ∧ RelH M' H' B w' ∧ Beneath B w w' ∧ RelV M' v' v := by
  unfold acopy at h
  split at h
  · rename_i b off len sz cc t ht
    split at h
    · rename_i hcond
      obtain ⟨hel, h1s, hxo⟩ := hcond
      obtain ⟨e, hu, hsz⟩ := elemOfSl_spec hel
      simp only [RelV, RelX] at hs
      obtain ⟨pl, A, cap, hpl, hv, hb, hcap, hnil, hnn, _, _, _, hlen⟩ := hs
      have hv : ρ y = .slice A len cap := by simpa using hv
      have hexec : ∀ w1 v1, (Builtin.copy_ c.argTypes o.type #[.slice A len cap, ρ z]).run P w = .ok v1 w1 → (execOp ρ o).run P w = .ok (.value v1) w1 := by
        intro w1 v1 hrun
        have hargs : c.args.map ρ = #[.slice A len cap, ρ z] := by simp [ha, hv]
        simp [execOp, ho, resolve, hc, invoke, builtin, hargs, hrun]
      have key : ∀ (oc : Cont) (k : IntKind) (l l' : List Int) (nc : Cont) (pn : Option Nat), H[b]? = some (some ⟨oc, true, pn⟩) → (∀ vs, RelO M oc vs → vs = l.map (.int k) ∧ ∀ x ∈ l, k.has x) → wholeS H x = some (.row k l') →
          (∀ (vs : List Value) (l2 : List Int), vs = l2.map (.int k) → (∀ x ∈ l2, k.has x) → l2.length = l.length → l2 = l.take off ++ l'.take (mul1 (min (slLenS x) len) sz) ++ l.drop (off + mul1 (min (slLenS x) len) sz) → RelO M nc vs) →
          ∃ v w' M', (execOp ρ o).run P w = .ok (.value v) w' ∧ Ext M M' ∧ RelH M' (H.set b (some ⟨nc, true, pn⟩)) B w' ∧ Beneath B w w' ∧ RelV M' (.int .i64 none (min (slLenS x) len : Nat)) v := by
        intro oc k l l' nc pn hob hrel hwx hnew
        obtain ⟨xs, hxs, lxs⟩ := wholeS_rel (P := P) r hx hwx h1s hxo
        generalize slLenS x = m at *
        have hmin : min m len ≤ m := Nat.min_le_left _ _
        have hmin2 : min m len ≤ len := Nat.min_le_right _ _
        have hminz : len = 0 → min m len = 0 := fun h => by omega
        have hmeq : Nat.min m len = min m len := rfl
        generalize min m len = q0 at *
        have hcells := lxs.first q0 hmin
        have hlx := lxs.lenOf
        have hms : q0 * sz ≤ m * sz := Nat.mul_le_mul_right _ hmin
        have hls : q0 * sz ≤ len * sz := Nat.mul_le_mul_right _ hmin2
        have hxl := lxs.1
        have hhas : IntKind.i64.has ((q0 : Nat) : Int) := has_le hlen hmin2
        have hr : RelV M (.int .i64 none (q0 : Nat)) (goInt (q0 : Nat)) := RelX_int.2 ⟨rfl, hhas, fun q hq => by cases hq⟩
        have hxi : xs.take (q0 * sz) = (l'.take (q0 * sz)).map (.int k) := by rw [hxs.1]; simp [List.map_take]
        have hxh : ∀ y ∈ l'.take (q0 * sz), k.has y := fun y hy => hxs.2 y (List.mem_of_mem_take hy)
        have hl'l : l'.length = m * sz := by have := congrArg List.length hxs.1; simp at this; omega
        obtain ⟨pl', hpl', hok⟩ := r.obj b _ hob
        rw [hpl] at hpl'; cases hpl'
        rw [mul1_eq] at hnew
        rcases hok with ⟨n1, n2, n3⟩ | ⟨n1, cells, el, fz, hg, hs1, hs2, hro, hown⟩
        · 
          obtain ⟨f1, f2⟩ := hnil n1
          subst f2
          have hz : q0 = 0 := by omega
          obtain ⟨g1, g2⟩ := hrel _ n3
          have hl0 : l = [] := by
            have := congrArg List.length g1
            simp at this
            exact List.eq_nil_of_length_eq_zero this.symm
          subst hl0
          have hrun : (Builtin.copy_ c.argTypes o.type #[.slice A len 0, ρ z]).run P w = .ok (goInt (q0 : Nat)) w := by
            cases A with
            | none => simp [Builtin.copy_, ht, run_underlying hu, hlx, run_sizeT hsz, hmeq, hcells]
            | some a =>
              have hc0 := hcells
              rw [hz] at hc0
              simp only [Nat.zero_mul, List.take_zero] at hc0
              simp [Builtin.copy_, ht, run_underlying hu, hlx, run_sizeT hsz, hmeq, hz, hc0, storeCells]
          refine ⟨_, w, M, hexec _ _ hrun, Ext.refl M, ?_, Beneath.refl _ _, hr⟩
          have hnc : RelO M nc [] := hnew [] [] rfl (by simp) rfl (by simp [hz])
          refine ⟨by simp [r.len], r.base, fun i oi hi => ?_, fun i j oi oj pi pj hi hj hpi hpj hne how hni hnj => ?_, fun i oi pi k' hi hpi hk' => ?_, fun i oi pi hi hpi hn => ?_, r.fz, fun i oi pi hi hpi how' hn => ?_, r.bf⟩
          · rw [List.getElem?_set] at hi
            split at hi
            · rename_i hbi
              subst hbi
              split at hi
              · cases hi; exact ⟨pl, hpl, .inl ⟨n1, n2, hnc⟩⟩
              · cases hi
            · exact r.obj i oi hi
          · have back : ∀ (i : Nat) (oi : AObj) (pi : Place), (H.set b (some ⟨nc, true, pn⟩))[i]? = some (some oi) → M[i]? = some pi → pi.nil = false → H[i]? = some (some oi) := by
              intro i oi pi hi hpi hni
              rw [List.getElem?_set] at hi
              split at hi
              · rename_i hbi
                subst hbi
                rw [hpl] at hpi
                cases hpi
                rw [n1] at hni
                cases hni
              · exact hi
            exact r.sep i j oi oj pi pj (back i oi pi hi hpi hni) (back j oj pj hj hpj hnj) hpi hpj hne how hni hnj
          · obtain ⟨oi', h1, h2, h3⟩ := set_back (o := ⟨oc, true, pn⟩) hob hi
            exact r.pin i oi' pi k' h1 hpi (by rw [h3]; exact hk')
          · obtain ⟨oi', h1, h2, h3⟩ := set_back (o := ⟨oc, true, pn⟩) hob hi
            exact r.vis i oi' pi h1 hpi hn
          · obtain ⟨oi', h1, h2, h3⟩ := set_back (o := ⟨oc, true, pn⟩) hob hi
            exact r.fo i oi' pi h1 hpi (by rw [h2]; exact how') hn
        · obtain ⟨hfz, hoff, hB⟩ := hown rfl
          obtain ⟨g1, g2⟩ := hrel _ hro
          have hll : l.length = pl.n := by
            have := congrArg List.length g1
            simp at this
            omega
          have hA := (hnn n1).1
          obtain ⟨A0, rfl⟩ : ∃ A0, A = some A0 := by cases A with | none => exact absurd rfl hA | some A0 => exact ⟨A0, rfl⟩
          by_cases hz : q0 * sz = 0
          · 
            have hrun : (Builtin.copy_ c.argTypes o.type #[.slice (some A0) len cap, ρ z]).run P w = .ok (goInt (q0 : Nat)) w := by
              have hc0 : (xs.take (q0 * sz)).toArray = #[] := by rw [hz]; simp
              simp [Builtin.copy_, ht, run_underlying hu, hlx, run_sizeT hsz, hmeq, hcells, hc0, storeCells]
            have hself : (cells.toList.drop pl.off).take pl.n = (l.take off ++ l'.take (q0 * sz) ++ l.drop (off + q0 * sz)).map (.int k) := by
              rw [g1, hz]
              simp
            have hwr := r.write hob rfl hpl n1 hg (us := cells) rfl (c := nc) (hnew _ _ hself (fun y hy => by rw [hz] at hy; simp at hy; exact g2 y hy) (by rw [hz]; simp) rfl)
            have hid : w.setRow pl.blk cells = w := setRow_self w pl.blk cells el fz hg
            rw [hid] at hwr
            exact ⟨_, w, M, hexec _ _ hrun, Ext.refl M, hwr.1, Beneath.refl _ _, hr⟩
          · have hl0 : 0 < len := by
              rcases Nat.eq_zero_or_pos len with h0 | h0
              · have := hminz h0; rw [this] at hz; simp at hz
              · exact h0
            have hA1 := (hnn n1).2 (.inl hl0)
            cases hA1
            have hst := run_storeCells_fz P pl.blk (pl.off + off) el fz (xs.take (q0 * sz)) 0 cells w hg hfz (by simp; omega) (fun v hv => by
              rw [hxi] at hv
              obtain ⟨q, _, rfl⟩ := List.mem_map.1 hv
              rfl)
            simp only [Nat.add_zero] at hst
            have hrun : (Builtin.copy_ c.argTypes o.type #[.slice (some ⟨pl.blk, pl.off + off, none⟩) len cap, ρ z]).run P w = .ok (goInt (q0 : Nat)) (w.setRow pl.blk (cells.toList.take (pl.off + off) ++ xs.take (q0 * sz) ++ cells.toList.drop (pl.off + off + (xs.take (q0 * sz)).length)).toArray) := by
              simp [Builtin.copy_, ht, run_underlying hu, hlx, run_sizeT hsz, hmeq, hcells, hst]
            have hlt : (xs.take (q0 * sz)).length = q0 * sz := by simp; omega
            have gC : cells.toList.take pl.n = l.map (.int k) := by
              rw [← g1, hoff, List.drop_zero]
            have husz : (cells.toList.take (pl.off + off) ++ xs.take (q0 * sz) ++ cells.toList.drop (pl.off + off + (xs.take (q0 * sz)).length)).toArray.size = cells.size := by
              rw [hlt]
              simp
              omega
            have hlist : (((cells.toList.take (pl.off + off) ++ xs.take (q0 * sz) ++ cells.toList.drop (pl.off + off + (xs.take (q0 * sz)).length)).toArray.toList.drop pl.off).take pl.n) = (l.take off ++ l'.take (q0 * sz) ++ l.drop (off + q0 * sz)).map (.int k) := by
              rw [List.toList_toArray, hlt, hoff, List.map_append, List.map_append, ← hxi, List.map_take, List.map_drop, ← gC]
              simp only [Nat.zero_add, List.drop_zero]
              have hA : (List.take off cells.toList ++ List.take (q0 * sz) xs).length = off + q0 * sz := by rw [List.length_append, hlt]; simp; omega
              rw [List.take_append, List.take_of_length_le (show (List.take off cells.toList ++ List.take (q0 * sz) xs).length ≤ pl.n by omega), hA, List.take_take, Nat.min_eq_left (by omega), List.drop_take]
            have hwr := r.write hob rfl hpl n1 hg husz (c := nc) (hnew _ _ hlist (fun y hy => by
              simp only [List.mem_append] at hy
              rcases hy with (hy | hy) | hy
              · exact g2 y (List.mem_of_mem_take hy)
              · exact hxh y hy
              · exact g2 y (List.mem_of_mem_drop hy)) (by simp; omega) rfl)
            exact ⟨_, _, M, hexec _ _ hrun, Ext.refl M, hwr.1, hwr.2, hr⟩
      split at h
      · rename_i k l pn k' l' hob hwx
        split at h
        · rename_i hk
          subst hk
          cases h
          exact key _ k' l l' _ _ hob (fun vs hvs => hvs) hwx (fun vs l2 e1 e2 _ e4 => by subst e4; exact ⟨e1, e2⟩)
        · cases h
      · rename_i k n l pn k' l' hob hwx
        split at h
        · rename_i hk
          subst hk
          cases h
          have hn : l.length = n := by
            obtain ⟨pl', hpl', hok⟩ := r.obj b _ hob
            rcases hok with ⟨_, _, hro⟩ | ⟨_, cells, el, fz, hg, hs1, hs2, hro, hown⟩ <;>
            · simp only [RelO, RelC_single, RelX_is] at hro
              exact hro.1
          exact key _ k' l l' _ _ hob (fun vs hvs => by
            simp only [RelO, RelC_single, RelX_is] at hvs
            exact ⟨hvs.2.1, hvs.2.2⟩) hwx (fun vs l2 e1 e2 e3 e4 => by
            subst e4
            simp only [RelO, RelC_single, RelX_is]
            exact ⟨by rw [e3, hn], e1, e2⟩)
        · cases h
      · cases h
    · cases h
  · cases h
end Go.AE
set_option linter.unusedVariables false
set_option linter.unusedSimpArgs false
namespace Go.AE
open Go Go.RowKit
def strBytes (H : Heap) : AV → Option (List Int)
  | .fsl k sz l => if k = .u8 ∧ sz = 1 then some l else none
  | .nils => some []
  | .sl b off len sz c => if sz = 1 then (match wholeC H (.sl b off len sz c) with
    | some (.row k l) => if k = .u8 then some l else none
    | _ => none) else none
  | _ => none
def aconvS (P : Program) (H : Heap) (s d : TypeId) (x : AV) : Option AV :=
  match P.underlying s, P.underlying d with
  | some (.slice e), some .string => match P.underlying e with
    | some (.int k) => if k = .u8 then (strBytes H x).map .str else none
    | _ => none
  | _, _ => none
theorem strBytes_rel {M : List Place} {H : Heap} {B : Base} {w : World} (r : RelH M H B w) {x : AV} {v : Value} (hx : RelV M x v) {l : List Int} (h : strBytes H x = some l) :
    ∃ len, Lies w v len 1 (l.map (.int .u8)) ∧ (∀ z ∈ l, IntKind.u8.has z) ∧ IntKind.i64.has (l.length : Int) := by
  cases x <;> simp only [strBytes, reduceCtorEq] at h
  case fsl k sz l' =>
    split at h
    · rename_i hk
      obtain ⟨rfl, rfl⟩ := hk
      cases h
      simp only [RelV, RelX] at hx
      obtain ⟨v', hv, A, len, cap, rfl, hcap, hlen, hi, hks, hz⟩ := hx
      have hv : v = .slice A len cap := by simpa using hv
      refine ⟨len, ⟨by simpa using hlen, A, cap, hv, hcap, ?_⟩, hks, by rw [show l.length = len by omega]; exact hi⟩
      rcases hz with hz | ⟨blk, off, cs, el, fz, rfl, hz, hle, hcs⟩
      · left; omega
      · exact .inr ⟨blk, off, cs, el, fz, rfl, (r.fz _ _ hz).1, hle, hcs.symm⟩
    · cases h
  case nils =>
    cases h
    have hv : v = .slice none 0 0 := by simpa [RelV, RelX] using hx
    exact ⟨0, ⟨by simp, none, 0, hv, Nat.le_refl _, .inl rfl⟩, fun z hz => (by cases hz), by rw [has_iff]; simp [loB, hiB]⟩
  case sl b off len sz c =>
    split at h
    · rename_i hs
      subst hs
      split at h
      · rename_i k l' hc
        split at h
        · rename_i hk
          subst hk
          cases h
          have hlen : IntKind.i64.has (len : Int) := by
            simp only [RelV, RelX] at hx
            obtain ⟨pl, A, cap, _, _, _, _, _, _, _, _, _, hl⟩ := hx
            exact hl
          obtain ⟨us, hro, hl⟩ := wholeC_rel r hx hc (sz := 1) (fun b off len s c e => by cases e; rfl)
          obtain ⟨rfl, hks⟩ := hro
          refine ⟨_, hl, hks, ?_⟩
          have := hl.1
          simp only [List.length_map, slLen, Nat.mul_one] at this
          rw [this]
          exact hlen
        · cases h
      · cases h
    · cases h
theorem run_toStr {P : Program} {w : World} {v : Value} {len : Nat} {l : List Int} (h : Lies w v len 1 (l.map (.int .u8))) {src dst e : TypeId} (hs : P.underlying src = some (.slice e)) (he : P.underlying e = some (.int .u8)) (hd : P.underlying dst = some .string) :
    (convert src dst v).run P w = .ok (.string (mkS l)) w := by
  obtain ⟨hl, A, cap, rfl, hcap, hm⟩ := h
  simp only [List.length_map, Nat.mul_one] at hl
  cases A with
  | none =>
    have h0 : len = 0 := by
      rcases hm with hm | ⟨_, _, _, _, _, e, _⟩
      · omega
      · cases e
    have : l = [] := List.length_eq_zero_iff.1 (by omega)
    subst this
    exact run_convert_bytes_nil w src e hs he _ _ dst hd
  | some A =>
    have hcells : (loadCells A len).run P w = .ok (l.map (Value.int .u8)).toArray w := by
      rcases hm with hm | ⟨blk, o, cs, el, fz, e, hg, hle, hus⟩
      · have h0 : len = 0 := by omega
        have : l = [] := List.length_eq_zero_iff.1 (by omega)
        subst this
        subst h0
        simp [loadCells, loadCellsFrom]
      · cases e
        rw [run_cells hg (by omega), hus, Nat.mul_one]
    rw [run_convert_bytes_string w src dst e _ len cap hs he hd, run_bytesToString w _ len cap l hcells, foldl_push_bytes]
    simp [mkS, ByteArray.empty, ByteArray.emptyWithCapacity]
    rfl
theorem aconvS_sound {P : Program} {M : List Place} {H : Heap} {B : Base} {w : World} (r : RelH M H B w) {ρ : Operand → Value} {o : Oper} {s d : TypeId} {y : Operand} (ho : o.op = .convert s d y) {x : AV} (hx : RelV M x (ρ y)) {z : AV} (h : aconvS P H s d x = some z) :
    ∃ v, RelV M z v ∧ (execOp ρ o).run P w = .ok (.value v) w := by
  unfold aconvS at h
  split at h
  · rename_i e hs hd
    split at h
    · rename_i k he
      split at h
      · rename_i hk
        subst hk
        simp only [Option.map_eq_some_iff] at h
        obtain ⟨l, hl, rfl⟩ := h
        obtain ⟨len, h1, h2, h3⟩ := strBytes_rel r hx hl
        refine ⟨.string (mkS l), ?_, ?_⟩
        · simp only [RelV, RelX, true_and]
          refine ⟨fun z hz => ?_, h3⟩
          have := has_iff.1 (h2 z hz)
          simpa [loB, hiB] using this
        · have := run_toStr h1 hs he hd
          simp [execOp, ho, this]
      · cases h
    · cases h
  · cases h
def aconvN (P : Program) (H : Heap) (s d : TypeId) (x : AV) : Option (AV × Heap) :=
  match P.underlying s, P.underlying d, x with
  | some .string, some (.slice e), .str l => (match P.underlying e with
    | some (.int k) => if k = .u8 then some (.sl H.length 0 l.length 1 .own, H ++ [some ⟨.row .u8 l, true, none⟩]) else none
    | _ => none)
  | some (.slice e), some (.slice _), .sl b off len sz .own => if s = d ∧ 1 ≤ len ∧ sz = 1 then (match P.underlying e, H[b]? with
    | some (.int k), some (some ⟨_, true, _⟩) => if k = .u8 then some (.sl b off len sz .own, H) else none
    | _, _ => none) else none
  | _, _, _ => none
theorem freeze_other (w : World) (a : Addr) (n k : Nat) (h : k ≠ a.block) : (w.freeze a n).heap[k]? = w.heap[k]? := by
  unfold World.freeze
  split
  · rfl
  · simp only [Array.getElem?_modify]
    rw [if_neg (fun e => h e.symm)]
theorem freeze_self (w : World) (g : Nat) {cs : Array Value} {el : TypeId} {lo hi : Nat} (hg : w.heap[g]? = some (.cells cs el (lo, hi))) (n : Nat) : (w.freeze ⟨g, n, none⟩ 1).heap[g]? = some (.cells cs el (if lo == hi then (n, n + 1) else (min lo n, max hi (n + 1)))) := by
  unfold World.freeze
  rw [if_neg (by decide)]
  simp only [Array.getElem?_modify, if_true, hg, Option.map_some]
theorem run_mark {P : Program} {w : World} {t e : TypeId} (hu : P.underlying t = some (.slice e)) (he : P.underlying e = some (.int .u8)) {A : Addr} {len cap : Nat} {cs : Array Value} {el : TypeId} {fz : Nat × Nat} (hg : w.heap[A.block]? = some (.cells cs el fz)) :
    (convert t t (.slice (some A) len cap)).run P w = .ok (.slice (some A) len cap) (w.freeze ⟨A.block, cs.size, none⟩ 1) := by
  have hsh : w.shape? A.block = some (el, cs.size) := by
    unfold World.shape?
    rw [hg]
  simp [convert, run_underlying hu, run_underlying he, markStringish, hsh]
theorem aconvN_sound {P : Program} {M : List Place} {H : Heap} {B : Base} {w : World} (r : RelH M H B w) {ρ : Operand → Value} {o : Oper} {s d : TypeId} {y : Operand} (ho : o.op = .convert s d y) {x : AV} (hx : RelV M x (ρ y)) {z : AV} {H' : Heap} (h : aconvN P H s d x = some (z, H')) :
    ∃ v w' M', (execOp ρ o).run P w = .ok (.value v) w' ∧ Ext M M' ∧ RelH M' H' B w' ∧ Beneath B w w' ∧ RelV M' z v := by
  unfold aconvN at h
  split at h
  · rename_i e l hs hd
    split at h
    · rename_i k he
      split at h
      · rename_i hk
        subst hk
        cases h
        simp only [RelV, RelX] at hx
        obtain ⟨hv, hb, hl⟩ := hx
        have hv : ρ y = .string (mkS l) := by simpa using hv
        have hrun := run_bytes_of_string (P := P) w s d e (mkS l) hs hd he
        have hcap : (mkS l).size ≤ grownCap w (mkS l).size 0 e := by simp [grownCap, Question.cut]
        rw [mkS_size] at hrun hcap
        have hb0 : Below w.heap.size w w.drew := (Below.refl _ _).drew
        have hrow : (bytesRow (mkS l) (grownCap w l.length 0 e)).toList = l.map (Value.int .u8) ++ List.replicate (grownCap w l.length 0 e - l.length) (.int .u8 0) := by
          unfold bytesRow
          simp only [Array.toList_append, Array.toList_map, Array.toList_replicate, mkS_size]
          congr 1
          simp only [mkS, List.map_map]
          refine List.map_congr_left fun x hx => ?_
          simp only [Function.comp]
          rw [u8_back (hb x hx)]
        have hsz : (bytesRow (mkS l) (grownCap w l.length 0 e)).size = grownCap w l.length 0 e := by
          have := congrArg List.length hrow
          simp at this
          omega
        obtain ⟨a1, a2, a3⟩ := (r.below hb0).allocF (c := .row .u8 l) (cs := bytesRow (mkS l) (grownCap w l.length 0 e)) (el := e) (n := l.length) (by omega) (by
          rw [hrow, List.take_append, List.take_of_length_le (by simp), show l.length - (l.map (Value.int .u8)).length = 0 by simp]
          exact ⟨by simp, fun x hx => by rw [has_iff]; have := hb x hx; simp only [loB, hiB]; omega⟩) true (fz := ((bytesRow (mkS l) (grownCap w l.length 0 e)).size, (bytesRow (mkS l) (grownCap w l.length 0 e)).size + 1)) (.inr (Nat.le_refl _))
        have hexec : (execOp ρ o).run P w = .ok (.value (.slice (some ⟨w.heap.size, 0, none⟩) l.length (grownCap w l.length 0 e))) (w.drew.alloc (.cells (bytesRow (mkS l) (grownCap w l.length 0 e)) e ((bytesRow (mkS l) (grownCap w l.length 0 e)).size, (bytesRow (mkS l) (grownCap w l.length 0 e)).size + 1))) := by
          simp [execOp, ho, hv, hrun]
        refine ⟨_, _, _, hexec, a2, a1, (Beneath.of hb0).trans a3, ?_⟩
        have := relV_newSl (r.below hb0) (len := l.length) (sz := 1) (cap := grownCap w l.length 0 e) (size := (bytesRow (mkS l) (grownCap w l.length 0 e)).size) hcap (by rw [hsz]; omega) hl
        rw [Nat.mul_one] at this
        exact this
      · cases h
    · cases h
  · rename_i e e' b off len sz hs hd
    split at h
    · rename_i hcond
      obtain ⟨rfl, h1, rfl⟩ := hcond
      split at h
      · rename_i k oc pn he hob
        split at h
        · rename_i hk
          subst hk
          cases h
          rw [hs] at hd
          cases hd
          have hx0 := hx
          simp only [RelV, RelX] at hx
          obtain ⟨pl, A, cap, hpl, hv, hb, hcap, hnil, hnn, hfull, hown, hwhole, hlen⟩ := hx
          have hv : ρ y = .slice A len cap := by simpa using hv
          obtain ⟨pl', hpl', hok⟩ := r.obj b _ hob
          rw [hpl] at hpl'; cases hpl'
          rcases hok with ⟨n1, n2, _⟩ | ⟨n1, cs, el, fz, hg, hs1, hs2, hro, hown2⟩
          · omega
          obtain ⟨hfz, _, _⟩ := hown2 rfl
          have hA := (hnn n1).2 (.inr trivial)
          subst hA
          have hrun := run_mark (P := P) (t := s) (len := len) (cap := cap) hs he (A := ⟨pl.blk, pl.off + off, none⟩) hg
          obtain ⟨lo, hi⟩ := fz
          have hself := freeze_self w pl.blk hg cs.size
          obtain ⟨g1, g2⟩ := r.mark hob rfl hpl n1 hg (fz2 := if lo == hi then (cs.size, cs.size + 1) else (min lo cs.size, max hi (cs.size + 1))) (by
            unfold FzOk at hfz ⊢
            split
            · exact .inr (Nat.le_refl _)
            · rename_i hne
              simp at hne
              rcases hfz with h0 | h0
              · cases h0
                exact absurd rfl hne
              · right
                simp at h0 ⊢
                omega) hself (fun k hk => freeze_other w _ 1 k hk) (by simp [World.freeze]) rfl rfl rfl
          have hexec : (execOp ρ o).run P w = .ok (.value (.slice (some ⟨pl.blk, pl.off + off, none⟩) len cap)) (w.freeze ⟨pl.blk, cs.size, none⟩ 1) := by
            simp [execOp, ho, hv, hrun]
          exact ⟨_, _, M, hexec, Ext.refl M, g1, g2, by rw [hv] at hx0; exact hx0⟩
        · cases h
      · cases h
    · cases h
  · cases h
theorem find_congr {α : Type} {p q : α → Bool} : ∀ {l : List α}, (∀ x ∈ l, p x = q x) → l.find? p = l.find? q
  | [], _ => rfl
  | x :: l, h => by
    rw [List.find?_cons, List.find?_cons, h x (List.mem_cons_self ..), find_congr fun y hy => h y (List.mem_cons_of_mem _ hy)]
def idxB (c : Int) : List Int → Int → Int
  | [], _ => -1
  | x :: r, i => cond (x == c) i (idxB c r (i + 1))
theorem findNext_ib {fn : Func} (h1 : fn.name = "internal/bytealg.IndexByteString") (h2 : fn.origin = "") : Extern.findNext fn = none := by
  unfold Extern.findNext
  rw [h1, h2]
  have e1 : Extern.allNextRows.lookup "internal/bytealg.IndexByteString" = none := by kernel_rfl
  have e2 : Extern.allNextRows.lookup "" = none := by kernel_rfl
  dsimp only
  rw [e1, e2]
  rfl
theorem find_ib {fn : Func} (h1 : fn.name = "internal/bytealg.IndexByteString") : Extern.find fn = some Extern.BytealgIndexByte.indexByte := by
  unfold Extern.find
  rw [h1]
  have e1 : Extern.allGenericRows.lookup "internal/bytealg.IndexByteString" = none := by kernel_rfl
  have e2 : Extern.allTypedRows.lookup "internal/bytealg.IndexByteString" = none := by kernel_rfl
  have e3 : Extern.allRows.lookup "internal/bytealg.IndexByteString" = some Extern.BytealgIndexByte.indexByte := by kernel_rfl
  simp only [e1, e2, e3]
  rfl
theorem mkS_at (l : List Int) {i : Nat} (h : i < l.length) : (mkS l)[i]! = UInt8.ofNat (l.getD i 0).toNat := by
  have h1 : i < (mkS l).size := by rw [mkS_size]; exact h
  have h2 := mkS_get l i h
  rw [getElem?_pos (mkS l) i h1] at h2
  rw [getElem!_pos (mkS l) i h1]
  exact Option.some.inj h2
theorem idxB_find (c : Int) : ∀ (l : List Int) (k : Nat), idxB c l k = (match (List.range' k l.length).find? (fun i => l.getD (i - k) 0 == c) with | some i => (i : Int) | none => -1)
  | [], k => by simp [idxB]
  | x :: r, k => by
    rw [idxB, List.length_cons, List.range'_succ, List.find?_cons]
    simp only [Nat.sub_self, List.getD_cons_zero]
    cases hq : (x == c)
    · simp only [cond_false]
      have ih := idxB_find c r (k + 1)
      rw [show ((k : Int) + 1) = ((k + 1 : Nat) : Int) by omega, ih]
      have : (List.range' (k + 1) r.length).find? (fun i => (x :: r).getD (i - k) 0 == c) = (List.range' (k + 1) r.length).find? (fun i => r.getD (i - (k + 1)) 0 == c) := by
        refine find_congr fun i hi => ?_
        have := List.mem_range'_1.1 hi
        rw [show i - k = (i - (k + 1)) + 1 by omega, List.getD_cons_succ]
      rw [this]
    · simp
theorem u8_eq {x y : Int} (hx : 0 ≤ x ∧ x ≤ 255) (hy : 0 ≤ y ∧ y ≤ 255) : (UInt8.ofNat x.toNat == UInt8.ofNat y.toNat) = (x == y) := by
  by_cases e : x = y
  · subst e; simp
  · rw [beq_eq_false_iff_ne.2 e, beq_eq_false_iff_ne.2]
    intro q
    apply e
    rw [← u8_back hx, ← u8_back hy, q]
theorem run_indexByte {P : Program} (w : World) {l : List Int} {c : Int} (hl : ∀ z ∈ l, 0 ≤ z ∧ z ≤ 255) (hc : 0 ≤ c ∧ c ≤ 255) :
    (Extern.BytealgIndexByte.indexByte #[.string (mkS l), .int .u8 c]).run P w = .ok (.int .i64 (idxB c l 0)) w := by
  have hq : (List.range (mkS l).size).find? (fun i => (mkS l)[i]! == c.toNat.toUInt8) = (List.range' 0 l.length).find? (fun i => l.getD (i - 0) 0 == c) := by
    rw [mkS_size, List.range_eq_range']
    refine find_congr fun i hi => ?_
    have hi' : i < l.length := by
      have := List.mem_range'_1.1 hi
      omega
    rw [mkS_at l hi']
    have := hl (l.getD i 0) (by rw [List.getD_eq_getElem?_getD, List.getElem?_eq_getElem hi']; exact List.getElem_mem hi')
    exact u8_eq this hc
  have h0 := idxB_find c l 0
  rw [show ((0 : Nat) : Int) = 0 from rfl] at h0
  rw [h0]
  have e : Extern.BytealgIndexByte.indexByte #[.string (mkS l), .int .u8 c] = (match (List.range (mkS l).size).find? (fun i => (mkS l)[i]! == c.toNat.toUInt8) with | some i => pure (goInt i) | none => pure (goInt (-1))) := rfl
  rw [e, hq]
  split <;> simp_all [goInt]
def aext (P : Program) (g : Operand → AV) (op : Op) : Option AV :=
  match op with
  | .call c => match c.callee, c.args.toList with
    | .value fo, [x, y] => match g fo with
      | .fn f [] [] => match P.funcs[f]? with
        | some fn => if fn.body.isNone = true ∧ fn.name = "internal/bytealg.IndexByteString" ∧ fn.origin = "" then
            match g x, g y with
            | .str l, .int .u8 _ z => some (.int .i64 none (idxB z l 0))
            | _, _ => none
          else none
        | none => none
      | _ => none
    | _, _ => none
  | _ => none
theorem idxB_has (c : Int) : ∀ (l : List Int) (k : Int), 0 ≤ k → k + l.length ≤ 9223372036854775807 → IntKind.i64.has (idxB c l k)
  | [], k, h0, h1 => by rw [idxB, has_iff]; simp [loB, hiB]
  | x :: r, k, h0, h1 => by
    rw [idxB]
    simp only [List.length_cons] at h1
    cases (x == c)
    · exact idxB_has c r (k + 1) (by omega) (by omega)
    · rw [cond_true, has_iff]
      simp only [loB, hiB]
      omega
theorem aext_sound {P : Program} {M : List Place} {ρ : Operand → Value} {g : Operand → AV} (hg : ∀ x, RelV M (g x) (ρ x)) {o : Oper} {z : AV} (h : aext P g o.op = some z) (w : World) :
    ∃ v, RelV M z v ∧ (execOp ρ o).run P w = .ok (.value v) w := by
  unfold aext at h
  split at h
  · rename_i c hop
    split at h
    · rename_i fo x y hc ha
      split at h
      · rename_i f hgf
        have hfo := hg fo
        rw [hgf] at hfo
        simp only [RelV, RelX, RelL_nil] at hfo
        obtain ⟨xa, ya, hv, q1, q2⟩ := hfo
        have hv : ρ fo = .func (.func f) #[] #[] := by
          have hx0 : xa = #[] := by apply Array.toList_inj.1; simpa using q1
          have hy0 : ya = #[] := by apply Array.toList_inj.1; simpa using q2
          subst hx0 hy0
          simpa using hv
        split at h
        · rename_i fn hf
          split at h
          · rename_i hn
            obtain ⟨hb, hname, horg⟩ := hn
            split at h
            · rename_i l li n hx hy
              cases h
              have h1 := hg x
              have h2 := hg y
              rw [hx] at h1
              rw [hy] at h2
              simp only [RelV, RelX] at h1
              obtain ⟨e2, k2, _⟩ := relV_int h2
              have e1 : ρ x = .string (mkS l) := by simpa using h1.1
              have hn2 := has_iff.1 k2
              simp only [loB, hiB] at hn2
              have hl := has_iff.1 h1.2.2
              simp only [loB, hiB] at hl
              refine ⟨.int .i64 (idxB n l 0), RelX_int.2 ⟨rfl, idxB_has n l 0 (Int.le_refl _) (by omega), fun m hm => by cases hm⟩, ?_⟩
              have ha' : c.args = #[x, y] := by
                apply Array.toList_inj.1
                simpa using ha
              have hrun := run_indexByte (P := P) w h1.2.1 hn2
              have hnn : fn.name ≠ "runtime.NumGoroutine" := by rw [hname]; decide
              have hb' : fn.body = none := by cases hq : fn.body <;> simp_all
              simp [execOp, hop, resolve, hc, hv, Deferred.ofValue, invoke, callFunc, hf, hnn, hb', findNext_ib hname horg, find_ib hname, ha', e1, e2, hrun, Sem.run]
            · cases h
          · cases h
        · cases h
      · cases h
    · cases h
  · cases h
end Go.AE
set_option linter.unusedVariables false
set_option linter.unusedSimpArgs false
namespace Go.AE
open Go Go.RowKit
abbrev fz1 (g : Nat) (ob : Obj) : Nat → Option Obj := fun k => if k = g then some ob else none
abbrev fzPl (f : Nat → Option Obj) : Place := ⟨true, 0, 0, 0, 0, f⟩
theorem RelH.addFz {M : List Place} {H : Heap} {B : Base} {w : World} (r : RelH M H B w) {g : Nat} {ob : Obj} (hg : w.heap[g]? = some ob) (hv : B.vis g) (hw : B.w g ∨ B.f g)
    (hf : ∀ (i : Nat) (o : AObj) (pl : Place), H[i]? = some (some o) → M[i]? = some pl → o.own = true → pl.nil = false → pl.blk ≠ g) :
    RelH (M ++ [fzPl (fz1 g ob)]) (H ++ [none]) B w := by
  have hE : Ext M (M ++ [fzPl (fz1 g ob)]) := Ext.snoc M _
  have hlen := r.len
  have new : ∀ (k : Nat) (o : Obj), FzAt (M ++ [fzPl (fz1 g ob)]) k o → FzAt M k o ∨ (k = g ∧ o = ob) := by
    intro k o h
    rcases FzAt.append h with h | ⟨i, pl, h1, h2⟩
    · exact .inl h
    · right
      cases i with
      | zero =>
        simp at h1
        subst h1
        simp only [fzPl, fz1] at h2
        split at h2
        · exact ⟨by assumption, by cases h2; rfl⟩
        · cases h2
      | succ i => simp at h1
  have back : ∀ (i : Nat) (oi : AObj), (H ++ [none])[i]? = some (some oi) → i < M.length ∧ H[i]? = some (some oi) := by
    intro i oi hi
    rw [List.getElem?_append] at hi
    split at hi
    · exact ⟨by omega, hi⟩
    · have h3 : i - H.length = 0 := by
        rcases Nat.eq_zero_or_pos (i - H.length) with h | h
        · exact h
        · rw [List.getElem?_eq_none (by simp; omega)] at hi; cases hi
      rw [h3] at hi
      simp at hi
  refine ⟨by simp [hlen], r.base, fun i oi hi => ?_, fun i j oi oj pi pj hi hj hpi hpj hne how hni hnj => ?_, fun i oi pi k hi hpi hk => ?_, fun i oi pi hi hpi hn => ?_, fun k o hk => ?_, fun i oi pi hi hpi how hn => ?_, r.bf⟩
  · obtain ⟨hlt, hi'⟩ := back i oi hi
    obtain ⟨pi, hpi, hoki⟩ := r.obj i oi hi'
    refine ⟨pi, hE _ _ hpi, ?_⟩
    rcases hoki with ⟨n1, n2, n3⟩ | ⟨n1, cs1, el1, fz1, g1, g2, g3, g4, g5⟩
    · exact .inl ⟨n1, n2, n3.mono hE⟩
    · exact .inr ⟨n1, cs1, el1, fz1, g1, g2, g3, g4.mono hE, g5⟩
  · obtain ⟨hlt, hi'⟩ := back i oi hi
    obtain ⟨hlt2, hj'⟩ := back j oj hj
    rw [List.getElem?_append_left hlt] at hpi
    rw [List.getElem?_append_left hlt2] at hpj
    exact r.sep i j oi oj pi pj hi' hj' hpi hpj hne how hni hnj
  · obtain ⟨hlt, hi'⟩ := back i oi hi
    rw [List.getElem?_append_left hlt] at hpi
    exact r.pin i oi pi k hi' hpi hk
  · obtain ⟨hlt, hi'⟩ := back i oi hi
    rw [List.getElem?_append_left hlt] at hpi
    exact r.vis i oi pi hi' hpi hn
  · rcases new k o hk with h | ⟨rfl, rfl⟩
    · exact r.fz k o h
    · exact ⟨hg, hv, hw⟩
  · obtain ⟨hlt, hi'⟩ := back i oi hi
    rw [List.getElem?_append_left hlt] at hpi
    refine ⟨(r.fo i oi pi hi' hpi how hn).1, fun o h => ?_⟩
    rcases new _ o h with h | ⟨h, _⟩
    · exact (r.fo i oi pi hi' hpi how hn).2 o h
    · exact hf i oi pi hi' hpi how hn h
theorem fzAt_new (M : List Place) (g : Nat) (ob : Obj) : FzAt (M ++ [fzPl (fz1 g ob)]) g ob := ⟨M.length, fzPl (fz1 g ob), by simp, by simp [fz1]⟩
theorem RelH.still {M : List Place} {H : Heap} {B : Base} {w : World} (r : RelH M H B w) {b : Nat} {o : AObj} {pl : Place} (ho : H[b]? = some (some o)) (how : o.own = true) (hpl : M[b]? = some pl) (hn : pl.nil = false) {ob : Obj} (hg : w.heap[pl.blk]? = some ob) :
    RelH (M ++ [fzPl (fz1 pl.blk ob)]) (H.set b none ++ [none]) B w := by
  obtain ⟨pl', hp', hok⟩ := r.obj b o ho
  rw [hpl] at hp'; cases hp'
  have hw : B.w pl.blk := by
    rcases hok with ⟨a1, _⟩ | ⟨_, cs, el, fz, _, _, _, _, h⟩
    · rw [hn] at a1; cases a1
    · exact (h how).2.2
  refine (r.kill b).addFz hg (r.vis b o pl ho hpl hn) (.inl hw) fun i oi pi hi hpi how' hni heq => ?_
  have hne : i ≠ b := by
    rintro rfl
    rw [List.getElem?_set] at hi
    simp at hi
  have hi' : H[i]? = some (some oi) := by
    rw [List.getElem?_set, if_neg (fun h => hne h.symm)] at hi
    exact hi
  exact r.sep b i o oi pl pi ho hi' hpl hpi (fun h => hne h.symm) how hn hni heq.symm
theorem RelH.addNone {M : List Place} {H : Heap} {B : Base} {w : World} (r : RelH M H B w) (pl : Place) (hz : ∀ k ob, pl.fz k = some ob → FzAt M k ob) : RelH (M ++ [pl]) (H ++ [none]) B w := by
  have hE : Ext M (M ++ [pl]) := Ext.snoc M _
  have hlen := r.len
  have back : ∀ (i : Nat) (oi : AObj), (H ++ [none])[i]? = some (some oi) → i < M.length ∧ H[i]? = some (some oi) := by
    intro i oi hi
    rw [List.getElem?_append] at hi
    split at hi
    · exact ⟨by omega, hi⟩
    · have h3 : i - H.length = 0 := by
        rcases Nat.eq_zero_or_pos (i - H.length) with h | h
        · exact h
        · rw [List.getElem?_eq_none (by simp; omega)] at hi; cases hi
      rw [h3] at hi
      simp at hi
  refine ⟨by simp [hlen], r.base, fun i oi hi => ?_, fun i j oi oj pi pj hi hj hpi hpj hne how hni hnj => ?_, fun i oi pi k hi hpi hk => ?_, fun i oi pi hi hpi hn => ?_, fun k ob hk => r.fz k ob (FzAt.snocS hz hk), fun i oi pi hi hpi how hn => ?_, r.bf⟩
  · obtain ⟨hlt, hi'⟩ := back i oi hi
    obtain ⟨pi, hpi, hoki⟩ := r.obj i oi hi'
    refine ⟨pi, hE _ _ hpi, ?_⟩
    rcases hoki with ⟨n1, n2, n3⟩ | ⟨n1, cs1, el1, fz1, g1, g2, g3, g4, g5⟩
    · exact .inl ⟨n1, n2, n3.mono hE⟩
    · exact .inr ⟨n1, cs1, el1, fz1, g1, g2, g3, g4.mono hE, g5⟩
  · obtain ⟨hlt, hi'⟩ := back i oi hi
    obtain ⟨hlt2, hj'⟩ := back j oj hj
    rw [List.getElem?_append_left hlt] at hpi
    rw [List.getElem?_append_left hlt2] at hpj
    exact r.sep i j oi oj pi pj hi' hj' hpi hpj hne how hni hnj
  · obtain ⟨hlt, hi'⟩ := back i oi hi
    rw [List.getElem?_append_left hlt] at hpi
    exact r.pin i oi pi k hi' hpi hk
  · obtain ⟨hlt, hi'⟩ := back i oi hi
    rw [List.getElem?_append_left hlt] at hpi
    exact r.vis i oi pi hi' hpi hn
  · obtain ⟨hlt, hi'⟩ := back i oi hi
    rw [List.getElem?_append_left hlt] at hpi
    exact ⟨(r.fo i oi pi hi' hpi how hn).1, fun ob h => (r.fo i oi pi hi' hpi how hn).2 ob (FzAt.snocS hz h)⟩
def frzRow (k : IntKind) (sz : Nat) (H : Heap) : AV → Option (List Int × Heap)
  | .fsl k' sz' l => if k' = k ∧ sz' = sz then some (l, H) else none
  | .nils => some ([], H)
  | .sl b _ _ sz' .own => if sz' = sz then
      match H[b]? with
      | some (some ⟨.row k' l, true, _⟩) => if k' = k then some (l, H.set b none ++ [none]) else none
      | _ => none
    else none
  | _ => none
theorem frzRow_sound {M : List Place} {H : Heap} {B : Base} {w : World} (r : RelH M H B w) {k : IntKind} {sz : Nat} {x : AV} {v : Value} (hx : RelV M x v) {l : List Int} {H' : Heap} (h : frzRow k sz H x = some (l, H')) :
    ∃ M', Ext M M' ∧ RelH M' H' B w ∧ RowFz M' k sz l v := by
  cases x <;> simp only [frzRow, reduceCtorEq] at h
  case fsl k' sz' l' =>
    split at h
    · rename_i hk
      obtain ⟨rfl, rfl⟩ := hk
      cases h
      simp only [RelV, RelX] at hx
      obtain ⟨v', hv, hr⟩ := hx
      have hv : v = v' := by simpa using hv
      subst hv
      exact ⟨M, Ext.refl M, r, hr⟩
    · cases h
  case nils =>
    cases h
    have hv : v = .slice none 0 0 := by simpa [RelV, RelX] using hx
    subst hv
    exact ⟨M, Ext.refl M, r, none, 0, 0, rfl, Nat.le_refl _, by simp, by rw [has_iff]; simp [loB, hiB], by simp, .inl rfl⟩
  case sl b off len sz' c =>
    cases c <;> simp only [reduceCtorEq] at h
    split at h
    · rename_i hs
      subst hs
      split at h
      · rename_i k' l' pn ho
        split at h
        · rename_i hk
          subst hk
          cases h
          simp only [RelV, RelX] at hx
          obtain ⟨pl, A, cap, hpl, hv, hb, hcap, hnil, hnn, hfull, hown, hwhole, hlen⟩ := hx
          have hv : v = .slice A len cap := by simpa using hv
          subst hv
          obtain ⟨pl', hpl', hok⟩ := r.obj b _ ho
          rw [hpl] at hpl'; cases hpl'
          have h0 : off = 0 ∧ len * sz' = pl.n := ⟨(hown trivial).1, (hown trivial).2.2.1⟩
          rcases hok with ⟨a1, a2, a3⟩ | ⟨a1, cs, el, fz, a2, a3, a4, a5, a6⟩
          · 
            obtain ⟨_, hcap0⟩ := hnil a1
            have hl0 : l = [] := by
              have := a3.1
              simp at this
              exact this
            subst hl0
            exact ⟨_, Ext.snoc M _, (r.kill b).addNone ⟨true, 0, 0, 0, 0, noFz⟩ (fun k ob h => by cases h), A, len, cap, rfl, hcap, by simp; omega, hlen, by simp, .inl hcap0⟩
          · obtain ⟨e1, e2⟩ := a5
            have hll : l.length = len * sz' := by
              have := congrArg List.length e1
              simp at this
              omega
            refine ⟨_, Ext.snoc M _, r.still ho rfl hpl a1 a2, A, len, cap, rfl, hcap, hll, hlen, e2, ?_⟩
            refine .inr ⟨pl.blk, pl.off, cs, el, fz, ?_, fzAt_new _ _ _, by omega, ?_⟩
            · rw [(hnn a1).2 (.inr trivial), h0.1]; rfl
            · rw [h0.2, e1]
        · cases h
      · cases h
    · cases h
def frzDrow (e : EK) (H : Heap) : AV → Option (List e.den × Heap)
  | .dsl d => if h : d.e = e then some (h ▸ d.l, H) else none
  | .nils => some ([], H)
  | .sl b _ _ sz .own => if sz = e.w then
      match H[b]? with
      | some (some ⟨.drow d, true, _⟩) => if h : d.e = e then some (h ▸ d.l, H.set b none ++ [none]) else none
      | _ => none
    else none
  | _ => none
theorem frzDrow_sound {M : List Place} {H : Heap} {B : Base} {w : World} (r : RelH M H B w) {e : EK} {x : AV} {v : Value} (hx : RelV M x v) {l : List e.den} {H' : Heap} (h : frzDrow e H x = some (l, H')) :
    ∃ M', Ext M M' ∧ RelH M' H' B w ∧ SlFz M' e.w (e.rel M') l v := by
  cases x <;> simp only [frzDrow, reduceCtorEq] at h
  case dsl d =>
    split at h
    · rename_i hk
      subst hk
      cases h
      simp only [RelV, RelX] at hx
      obtain ⟨v', hv, hr⟩ := hx
      have hv : v = v' := by simpa using hv
      subst hv
      exact ⟨M, Ext.refl M, r, hr⟩
    · cases h
  case nils =>
    cases h
    have hv : v = .slice none 0 0 := by simpa [RelV, RelX] using hx
    subst hv
    exact ⟨M, Ext.refl M, r, none, 0, 0, rfl, Nat.le_refl _, rfl, by rw [has_iff]; simp [loB, hiB], .inl rfl⟩
  case sl b off len sz c =>
    cases c <;> simp only [reduceCtorEq] at h
    split at h
    · rename_i hs
      subst hs
      split at h
      · rename_i d pn ho
        split at h
        · rename_i hk
          subst hk
          cases h
          simp only [RelV, RelX] at hx
          obtain ⟨pl, A, cap, hpl, hv, hb, hcap, hnil, hnn, hfull, hown, hwhole, hlen⟩ := hx
          have hv : v = .slice A len cap := by simpa using hv
          subst hv
          obtain ⟨pl', hpl', hok⟩ := r.obj b _ ho
          rw [hpl] at hpl'; cases hpl'
          have h0 : off = 0 ∧ len * d.e.w = pl.n := ⟨(hown trivial).1, (hown trivial).2.2.1⟩
          have hw := d.e.w_pos
          rcases hok with ⟨a1, a2, a3⟩ | ⟨a1, cs, el, fz, a2, a3, a4, a5, a6⟩
          · obtain ⟨_, hcap0⟩ := hnil a1
            have hlen0 : len = 0 := by omega
            have hl0 : d.l.length = 0 := by
              have := a3.1
              simp only [List.length_nil] at this
              rcases Nat.eq_zero_or_pos d.l.length with h | h
              · exact h
              · have := Nat.mul_pos h hw; omega
            exact ⟨_, Ext.snoc M _, (r.kill b).addNone ⟨true, 0, 0, 0, 0, noFz⟩ (fun k ob h => by cases h), A, len, cap, rfl, hcap, by show d.l.length = len; omega, hlen, .inl hlen0⟩
          · obtain ⟨e1, e2⟩ := a5
            have hll : d.l.length = len := by
              have h1 : d.l.length * d.e.w = len * d.e.w := by
                rw [← e1]
                simp
                omega
              exact Nat.eq_of_mul_eq_mul_right hw h1
            have hE := Ext.snoc M [fzPl (fz1 pl.blk (.cells cs el fz))]
            refine ⟨_, hE, r.still ho rfl hpl a1 a2, A, len, cap, rfl, hcap, hll, hlen, ?_⟩
            refine .inr ⟨pl.blk, pl.off, cs, el, fz, ?_, fzAt_new _ _ _, by omega, fun i x hx => ?_⟩
            · rw [(hnn a1).2 (.inr trivial), h0.1]; rfl
            · have h1 := e2 i x hx
              have hi : i < len := by
                rw [← hll]
                exact (List.getElem?_eq_some_iff.1 hx).1
              have := mul_lt (s := d.e.w) hi
              rw [sub_cells (by omega)] at h1
              exact EK.rel_mono hE.fz _ _ _ h1
        · cases h
      · cases h
    · cases h
def frzE : (e : EK) → Heap → List AV → Option (e.den × List AV × Heap)
  | .row k sz, H, x :: r => match frzRow k sz H x with
    | some (l, H') => some (l, r, H')
    | none => none
  | .pair, H, .str a :: .str b :: r => some ((a, b), r, H)
  | .deep e, H, x :: r => match frzDrow e H x with
    | some (l, H') => some (l, r, H')
    | none => none
  | _, _, _ => none
theorem frzE_sound {M : List Place} {H : Heap} {B : Base} {w : World} (r : RelH M H B w) {e : EK} {cs : List AV} {vs : List Value} (hc : RelC M cs vs) {x : e.den} {rest : List AV} {H' : Heap} (h : frzE e H cs = some (x, rest, H')) :
    ∃ M' us ws, Ext M M' ∧ RelH M' H' B w ∧ vs = us ++ ws ∧ us.length = e.w ∧ e.rel M' x us ∧ RelC M' rest ws := by
  unfold frzE at h
  split at h
  · rename_i k sz H0 y rr
    split at h
    · rename_i l H1 hl
      cases h
      obtain ⟨a, t, rfl, ha, ht⟩ := RelC_cons.1 hc
      have h1 : ∃ v, a = [v] := by
        have := RelX_length ha
        unfold frzRow at hl
        split at hl <;> simp only [width, reduceCtorEq] at this hl <;> exact List.length_eq_one_iff.1 this
      obtain ⟨v, rfl⟩ := h1
      obtain ⟨M', hE, hr, hrow⟩ := frzRow_sound r ha hl
      exact ⟨M', [v], t, hE, hr, rfl, rfl, ⟨v, rfl, hrow⟩, RelC.mono hE _ _ ht⟩
    · cases h
  · rename_i H0 a b rr
    cases h
    obtain ⟨u1, t1, rfl, h1, h2⟩ := RelC_cons.1 hc
    obtain ⟨u2, t2, rfl, h3, h4⟩ := RelC_cons.1 h2
    simp only [RelX] at h1 h3
    obtain ⟨rfl, g1, g2⟩ := h1
    obtain ⟨rfl, g3, g4⟩ := h3
    exact ⟨M, [_, _], t2, Ext.refl M, r, rfl, rfl, ⟨rfl, ⟨g1, g3⟩, g2, g4⟩, h4⟩
  · rename_i e' H0 y rr
    split at h
    · rename_i l H1 hl
      cases h
      obtain ⟨a, t, rfl, ha, ht⟩ := RelC_cons.1 hc
      have h1 : ∃ v, a = [v] := by
        have := RelX_length ha
        unfold frzDrow at hl
        split at hl <;> simp only [width, reduceCtorEq] at this hl <;> exact List.length_eq_one_iff.1 this
      obtain ⟨v, rfl⟩ := h1
      obtain ⟨M', hE, hr, hrow⟩ := frzDrow_sound r ha hl
      exact ⟨M', [v], t, hE, hr, rfl, rfl, ⟨v, rfl, hrow⟩, RelC.mono hE _ _ ht⟩
    · cases h
  · cases h
def frzL (e : EK) : Nat → Heap → List AV → Option (List e.den × Heap)
  | 0, H, [] => some ([], H)
  | n + 1, H, cs => match frzE e H cs with
    | some (x, rest, H1) => match frzL e n H1 rest with
      | some (l, H2) => some (x :: l, H2)
      | none => none
    | none => none
  | _, _, _ => none
theorem frzL_sound {B : Base} {w : World} {e : EK} : ∀ {n : Nat} {M : List Place} {H : Heap} {cs : List AV} {vs : List Value} {l : List e.den} {H' : Heap}, RelH M H B w → RelC M cs vs → frzL e n H cs = some (l, H') →
    ∃ M', Ext M M' ∧ RelH M' H' B w ∧ l.length = n ∧ vs.length = n * e.w ∧ ∀ (i : Nat) (x : e.den), l[i]? = some x → e.rel M' x ((vs.drop (i * e.w)).take e.w)
  | 0, M, H, cs, vs, l, H', r, hc, h => by
    cases cs with
    | nil =>
      simp only [frzL, Option.some.injEq, Prod.mk.injEq] at h
      obtain ⟨rfl, rfl⟩ := h
      rw [RelC_nil] at hc
      subst hc
      exact ⟨M, Ext.refl M, r, rfl, by simp, fun i x hx => by simp at hx⟩
    | cons y ys => simp [frzL] at h
  | n + 1, M, H, cs, vs, l, H', r, hc, h => by
    simp only [frzL] at h
    split at h
    · rename_i x rest H1 hx
      split at h
      · rename_i l1 H2 hl
        simp only [Option.some.injEq, Prod.mk.injEq] at h
        obtain ⟨rfl, rfl⟩ := h
        obtain ⟨M1, us, ws, hE1, hr1, rfl, hul, hrel, hc1⟩ := frzE_sound r hc hx
        obtain ⟨M2, hE2, hr2, hln, hvl, hall⟩ := frzL_sound hr1 hc1 hl
        refine ⟨M2, hE1.trans hE2, hr2, by simp [hln], by simp only [List.length_append, hul, hvl, Nat.add_mul, Nat.one_mul]; omega, fun i y hy => ?_⟩
        cases i with
        | zero =>
          simp only [List.getElem?_cons_zero, Option.some.injEq] at hy
          subst hy
          rw [Nat.zero_mul, List.drop_zero, ← hul, List.take_left]
          exact EK.rel_mono hE2.fz _ _ _ hrel
        | succ i =>
          have := hall i y (by simpa using hy)
          rw [Nat.add_mul, Nat.one_mul, show i * e.w + e.w = us.length + i * e.w by omega, ← List.drop_drop, List.drop_left]
          exact this
      · cases h
    · cases h
def ekOf (P : Program) (e : TypeId) : Option EK :=
  match P.underlying e with
  | some (.slice e2) => (match P.underlying e2 with
    | some (.int k) => if k = .u8 then some (.row .u8 1) else none
    | some (.slice e3) => (match P.underlying e3 with
      | some (.int k) => if k = .u8 then some (.deep (.row .u8 1)) else none
      | _ => none)
    | _ => none)
  | some (.struct fs) => (match fs.toList with
    | [f1, f2] => (match P.underlying f1.type, P.underlying f2.type with
      | some .string, some .string => some .pair
      | _, _ => none)
    | _ => none)
  | _ => none
def abuildDeep (P : Program) (H : Heap) (t : TypeId) (len : Nat) (parts : List (Nat × AV)) : Option (AV × Heap) :=
  match P.underlying t with
  | some (.slice e) => match ekOf P e with
    | some k => match abuildSlice P [] t len parts with
      | some (.sl _ _ _ s _, [some ⟨.segs cs, _, _⟩]) => if s = k.w then
          (match frzL k len H cs with
            | some (l, H') => some (.dsl ⟨k, l⟩, H' ++ [none])
            | none => none)
        else none
      | _ => none
    | none => none
  | _ => none
theorem abuildDeep_sound {P : Program} {M : List Place} {H : Heap} {B : Base} {w : World} (r : RelH M H B w) {ρ : Operand → Value} {g : Operand → AV} (hg : ∀ x, RelV M (g x) (ρ x)) {o : Oper} {t : TypeId} {len : Nat} {parts : Array (Nat × Operand)} (ho : o.op = .buildSlice t len parts) {x : AV} {H' : Heap}
    (h : abuildDeep P H t len (parts.toList.map fun z => (z.1, g z.2)) = some (x, H')) :
    ∃ v w' M', (execOp ρ o).run P w = .ok (.value v) w' ∧ Ext M M' ∧ RelH M' H' B w' ∧ Beneath B w w' ∧ RelV M' x v := by
  unfold abuildDeep at h
  split at h
  · rename_i e hu
    split at h
    · rename_i k hk
      split at h
      · rename_i b0 off0 len0 s c0 cs ow pn hb
        split at h
        · rename_i hs
          subst hs
          split at h
          · rename_i l H1 hl
            simp only [Option.some.injEq, Prod.mk.injEq] at h
            obtain ⟨rfl, rfl⟩ := h
            obtain ⟨c, cells, e', s', q1, q2, q3, q4, q5, q6⟩ := abuildSlice_run (M := M) hg ho hb
            simp only [AV.sl.injEq] at q1
            obtain ⟨_, _, _, rfl, _⟩ := q1
            simp only [List.nil_append, List.cons.injEq, Option.some.injEq, AObj.mk.injEq, and_true] at q2
            obtain ⟨rfl, _⟩ := q2
            have hbel := below_alloc w (.cells cells e')
            obtain ⟨M1, hE, hr1, hll, hvl, hall⟩ := frzL_sound r q3 hl
            have hnew := r.base w.heap.size (Nat.le_refl _)
            have hg1 : (w.alloc (.cells cells e')).heap[w.heap.size]? = some (.cells cells e' (0, 0)) := heap_alloc_new w _
            have hlt : ∀ (i : Nat) (oi : AObj) (pi : Place), H1[i]? = some (some oi) → M1[i]? = some pi → oi.own = true → pi.nil = false → pi.blk ≠ w.heap.size := by
              intro i oi pi hi hpi how hn heq
              obtain ⟨pl, hp, hok⟩ := hr1.obj i oi hi
              rw [hpi] at hp; cases hp
              rcases hok with ⟨a1, _⟩ | ⟨_, cs', el', fz', a2, _⟩
              · rw [hn] at a1; cases a1
              · have := (Array.getElem?_eq_some_iff.1 a2).1
                omega
            have hr2 := (hr1.below hbel).addFz hg1 hnew.2 (.inl hnew.1) hlt
            have hE2 := Ext.snoc M1 [fzPl (fz1 w.heap.size (.cells cells e' (0, 0)))]
            refine ⟨_, _, _, q6 w, hE.trans hE2, hr2, .of hbel, ?_⟩
            simp only [RelV, RelX]
            refine ⟨_, rfl, _, _, _, rfl, Nat.le_refl _, hll, q5, ?_⟩
            refine .inr ⟨w.heap.size, 0, cells, e', (0, 0), rfl, fzAt_new _ _ _, by omega, fun i x hx => ?_⟩
            have := hall i x hx
            rw [Nat.zero_add]
            exact EK.rel_mono hE2.fz _ _ _ this
          · cases h
        · cases h
      · cases h
    · cases h
  · cases h
end Go.AE
set_option linter.unusedVariables false
set_option linter.unusedSimpArgs false
namespace Go.AE
open Go Go.RowKit
variable {ρ : Type}
abbrev Cal (ρ : Type) := FuncId → List AV → Heap → (AV → Heap → Option ρ) → Option ρ
abbrev QCal (ρ : Type) := FuncId → List AV → Heap → (AV → Option ρ) → Option ρ
def CalAt (P : Program) (f : FuncId) (cal : List AV → Heap → (AV → Heap → Option ρ) → Option ρ) : Prop :=
  ∀ (args : List AV) (H : Heap) (K : AV → Heap → Option ρ) (r : ρ), cal args H K = some r → ∀ (M : List Place) (B : Base) (w : World) (vs : Array Value), RelL M args vs.toList → RelH M H B w →
    Calls P f vs w fun e w' => ∃ v av H' M', e = .returned v ∧ K av H' = some r ∧ Ext M M' ∧ RelH M' H' B w' ∧ Beneath B w w' ∧ RelV M' av v
def QCalAt (P : Program) (f : FuncId) (cal : List AV → Heap → (AV → Option ρ) → Option ρ) : Prop :=
  ∀ (args : List AV) (H : Heap) (K : AV → Option ρ) (r : ρ), cal args H K = some r → ∀ (M : List Place) (B : Base) (w : World) (vs : Array Value), RelL M args vs.toList → RelH M H B w →
    ∃ v av, K av = some r ∧ RelV M av v ∧ ∀ w', Below w.heap.size w w' → Calls P f vs w' fun e w'' => e = .returned v ∧ Below w'.heap.size w' w''
def Callable (P : Program) : Prop := ∀ (g : FuncId) (fn : Func), P.funcs[g]? = some fn → fn.body.isSome = true → fn.name ≠ "runtime.NumGoroutine"
def an (P : Program) (H : Heap) (g : Operand → AV) : Op → Option (Bool × AV × Heap)
  | .alloc t => (aalloc P H t).map fun x => (true, x.1, x.2)
  | .box _ y => (abox H (g y)).map fun x => (true, x.1, x.2)
  | .buildSlice t n parts => match abuildDeep P H t n (parts.toList.map fun z => (z.1, g z.2)) with
    | some x => some (true, x.1, x.2)
    | none => (abuildSlice P H t n (parts.toList.map fun z => (z.1, g z.2))).map fun x => (true, x.1, x.2)
  | .convert s d x => match aconvN P H s d (g x) with
    | some y => some (true, y.1, y.2)
    | none => (aconvS P H s d (g x)).map fun y => (true, y, H)
  | .makeSlice t a b => amake P H t (g a) (g b)
  | .store t a x => (astore P H t (g a) (g x)).map fun h => (true, .undef, h)
  | .call c => match c.callee, c.args.toList with
    | .builtin .append, [y, z] => aappend P H c.argTypes (g y) (g z)
    | .builtin .copy, [y, z] => (acopy P H c.argTypes (g y) (g z)).map fun x => (true, x.1, x.2)
    | _, _ => (aext P g (.call c)).map fun y => (true, y, H)
  | _ => none
theorem an_sound {P : Program} {M : List Place} {H : Heap} {B : Base} {w : World} (r : RelH M H B w) {e : Operand → Value} {g : Operand → AV} (hg : ∀ x, RelV M (g x) (e x)) {o : Oper} {req : Bool} {x : AV} {H' : Heap}
    (h : an P H g o.op = some (req, x, H')) (hreq : req = true) :
    ∃ v w' M', ((execOp e o).run P w = .ok (.value v) w' ∨ ((execOp e o).run P w = .ok .skip w' ∧ v = undef)) ∧ Ext M M' ∧ RelH M' H' B w' ∧ Beneath B w w' ∧ RelV M' x v := by
  have l : (∃ v w' M', (execOp e o).run P w = .ok (.value v) w' ∧ Ext M M' ∧ RelH M' H' B w' ∧ Beneath B w w' ∧ RelV M' x v) →
      ∃ v w' M', ((execOp e o).run P w = .ok (.value v) w' ∨ ((execOp e o).run P w = .ok .skip w' ∧ v = undef)) ∧ Ext M M' ∧ RelH M' H' B w' ∧ Beneath B w w' ∧ RelV M' x v :=
    fun ⟨v, w', M', h1, h2⟩ => ⟨v, w', M', .inl h1, h2⟩
  have un : ∀ {a : Option (AV × Heap)}, a.map (fun x => (true, x.1, x.2)) = some (req, x, H') → a = some (x, H') := by
    intro a ha
    simp only [Option.map_eq_some_iff, Prod.mk.injEq] at ha
    obtain ⟨⟨x1, x2⟩, h1, _, h2, h3⟩ := ha
    rw [h1, ← h2, ← h3]
  cases hop : o.op <;> rw [hop] at h <;> try (cases h; done)
  case alloc t => exact l (aalloc_sound r hop (un h))
  case box t y => exact l (abox_sound r hop (hg y) (un h))
  case buildSlice t n parts =>
    simp only [an] at h
    split at h
    · rename_i y hy
      cases h
      exact l (abuildDeep_sound r hg hop hy)
    · exact l (abuildSlice_sound r hg hop (un h))
  case convert s d y =>
    simp only [an] at h
    split at h
    · rename_i y2 hy
      cases h
      exact l (aconvN_sound r hop (hg y) hy)
    simp only [Option.map_eq_some_iff, Prod.mk.injEq] at h
    obtain ⟨z, h1, _, rfl, rfl⟩ := h
    obtain ⟨v, hv, hrun⟩ := aconvS_sound r hop (hg y) h1
    exact l ⟨v, w, M, hrun, Ext.refl M, r, Beneath.refl B w, hv⟩
  case makeSlice t a b => exact l (amake_sound r hop (hg a) (hg b) h hreq)
  case store t a y =>
    simp only [an, Option.map_eq_some_iff, Prod.mk.injEq] at h
    obtain ⟨H1, h1, _, h2, rfl⟩ := h
    obtain ⟨w', hrun, hh, hb⟩ := astore_sound r hop (hg a) (hg y) h1
    exact ⟨undef, w', M, .inr ⟨hrun, rfl⟩, Ext.refl M, hh, hb, by rw [← h2]; exact relV_undef _ _⟩
  case call c =>
    simp only [an] at h
    split at h
    · rename_i y z hc ha
      have ha' : c.args = #[y, z] := by
        apply Array.toList_inj.1
        simpa using ha
      exact l (aappend_sound r hop hc ha' (hg y) (hg z) h hreq)
    · rename_i y z hc ha
      have ha' : c.args = #[y, z] := by
        apply Array.toList_inj.1
        simpa using ha
      exact l (acopy_sound r hop hc ha' (hg y) (hg z) (un h))
    · simp only [Option.map_eq_some_iff, Prod.mk.injEq] at h
      obtain ⟨z, h1, _, rfl, rfl⟩ := h
      rw [← hop] at h1
      obtain ⟨v, hv, hrun⟩ := aext_sound hg h1 w
      exact l ⟨v, w, M, hrun, Ext.refl M, r, Beneath.refl B w, hv⟩
def callOf (g : Operand → AV) : Op → Option (FuncId × List AV)
  | .call c => match c.callee with
    | .value f => match g f with
      | .fn i first cap => some (i, first ++ c.args.toList.map g ++ cap)
      | _ => none
    | _ => none
  | _ => none
theorem RelL_append {M : List Place} : ∀ {xs ys : List AV} {a b : List Value}, RelL M xs a → RelL M ys b → RelL M (xs ++ ys) (a ++ b)
  | [], ys, a, b, h1, h2 => by rw [RelL_nil] at h1; subst h1; simpa using h2
  | x :: xs, ys, a, b, h1, h2 => by
    obtain ⟨v, t, rfl, hx, hr⟩ := RelL_cons.1 h1
    exact RelL_cons.2 ⟨v, t ++ b, rfl, hx, RelL_append hr h2⟩
theorem callOf_run {P : Program} (hP : Callable P) {M : List Place} {e : Operand → Value} {g : Operand → AV} (hg : ∀ x, RelV M (g x) (e x)) {o : Oper} {i : FuncId} {args : List AV} (h : callOf g o.op = some (i, args)) {fn : Func} (hf : P.funcs[i]? = some fn) (hb : fn.body.isSome = true) :
    ∃ vs : Array Value, RelL M args vs.toList ∧ ∀ w, (execOp e o).run P w = .ok (.enter i vs) w := by
  unfold callOf at h
  split at h
  · rename_i c hop
    split at h
    · rename_i f hc
      split at h
      · rename_i i' first cap hgf
        cases h
        have hf' := hg f
        rw [hgf] at hf'
        simp only [RelV, RelX] at hf'
        obtain ⟨x, y, hv, h1, h2⟩ := hf'
        have hv : e f = .func (.func i) x y := by simpa using hv
        refine ⟨x ++ c.args.map e ++ y, ?_, fun w => ?_⟩
        · simp only [Array.toList_append, Array.toList_map]
          exact RelL_append (RelL_append h1 (relL_map hg _)) h2
        · have hn := hP i fn hf hb
          cases hq : fn.body with
          | none => simp [hq] at hb
          | some cd => simp [execOp, hop, resolve, hc, hv, Deferred.ofValue, invoke, callFunc, hf, hn, hq]
      · cases h
    · cases h
  · cases h
def evExec (P : Program) (cal : Cal ρ) (o : Oper) (st : St) (K : St → Option ρ) : Option ρ :=
  match aq P st.heap st.get o.op with
  | some (req, x) => cond req (K (st.put o.dst x)) none
  | none => match an P st.heap st.get o.op with
    | some (req, x, H') => cond req (K ⟨(st.put o.dst x).tmps, H'⟩) none
    | none => match callOf st.get o.op with
      | some (f, args) => match P.funcs[f]? with
        | some fn => match fn.body with
          | some _ => cal f args st.heap fun x H' => K ⟨(st.put o.dst x).tmps, H'⟩
          | none => none
        | none => none
      | none => none
theorem evExec_act {P : Program} (hP : Callable P) {cal : Cal ρ} (hcal : ∀ f, CalAt P f (cal f)) {o : Oper} {st : St} {K : St → Option ρ} {r : ρ} (h : evExec P cal o st K = some r) {M : List Place} {B : Base} {w0 : World} {a : Act} {w : World} (hr : Rel M st B w0 a w)
    {next : Act → World → Prop} {Q : Exit → Act → World → Prop} (hn : ∀ M' st' a' w', Ext M M' → K st' = some r → Rel M' st' B w0 a' w' → (∃ v, a' = a.put o.dst v) → next a' w') : o.wp P a w next Q := by
  have hg : ∀ x, RelV M (st.get x) (a.eval x) := fun x => get_rel hr.tmps x
  unfold evExec at h
  unfold Oper.wp
  split at h
  · rename_i req x hq
    cases req with
    | false => cases h
    | true =>
      obtain ⟨v, hv, hrun⟩ := aq_sound hr.heap hg hq rfl
      rw [hrun w (Below.refl _ _)]
      exact hn M _ _ _ (Ext.refl M) h (hr.put hv o.dst) ⟨v, rfl⟩
  · split at h
    · rename_i req x H' hq
      cases req with
      | false => cases h
      | true =>
        obtain ⟨v, w', M', hrun, hE, hH, hb, hv⟩ := an_sound hr.heap hg hq rfl
        have hrel : Rel M' ⟨(st.put o.dst x).tmps, H'⟩ B w0 (a.put o.dst v) w' := by
          have h1 := hr.withHeap hE hH hb
          have h2 := h1.put hv o.dst
          cases hd : o.dst <;> rw [hd] at h2 <;> exact h2
        rcases hrun with hrun | ⟨hrun, rfl⟩
        · rw [hrun]
          exact hn M' _ _ _ hE h hrel ⟨_, rfl⟩
        · rw [hrun]
          exact hn M' _ _ _ hE h hrel ⟨_, rfl⟩
    · split at h
      · rename_i f args hc
        split at h
        · rename_i fn hf
          split at h
          · rename_i c hb
            obtain ⟨vs, hl, hrun⟩ := callOf_run hP hg hc hf (by rw [hb]; rfl)
            rw [hrun w]
            rw [Oper.upon_enter]
            refine (hcal f args st.heap _ r h M B w vs hl hr.heap).mono ?_
            rintro e w' ⟨v, av, H', M', rfl, hk, hE, hH, hbl, hv⟩
            refine hn M' _ _ _ hE hk ?_ ⟨_, rfl⟩
            have h1 := hr.withHeap hE hH hbl
            have h2 := h1.put hv o.dst
            cases hd : o.dst <;> rw [hd] at h2 <;> exact h2
          · cases h
        · cases h
      · cases h
theorem evExec_sound {P : Program} (hP : Callable P) {cal : Cal ρ} (hcal : ∀ f, CalAt P f (cal f)) {o : Oper} {st : St} {K : St → Option ρ} {r : ρ} (h : evExec P cal o st K = some r) {M : List Place} {B : Base} {w0 : World} {a : Act} {w : World} (hr : Rel M st B w0 a w)
    {next : Act → World → Prop} {Q : Exit → Act → World → Prop} (hn : ∀ M' st' a' w', Ext M M' → K st' = some r → Rel M' st' B w0 a' w' → next a' w') : o.wp P a w next Q :=
  evExec_act hP hcal h hr fun M' st' a' w' h1 h2 h3 _ => hn M' st' a' w' h1 h2 h3
def guarded0 (ops : Array Oper) (o : Oper) (st : St) (exec : St → (St → Option ρ) → Option ρ) (K : St → Option ρ) : Option ρ :=
  match o.guard with
  | none => exec st K
  | some (j, want) => match ops[j]? with
    | some oj => match oj.dst with
      | some d => match st.tmps.getD d .undef with
        | .bool (some b) _ => cond (b == want) (exec st K) (K (st.put o.dst (.tup [])))
        | .bool none b => cond b
            (cond want (exec (st.put (some d) (.bool (some true) true)) K) (K ((st.put (some d) (.bool (some true) true)).put o.dst (.tup []))))
            (cond want (K ((st.put (some d) (.bool (some false) false)).put o.dst (.tup []))) (exec (st.put (some d) (.bool (some false) false)) K))
        | .tup [] => K (st.put o.dst (.tup []))
        | _ => none
      | none => none
    | none => none
theorem put_self {a : Act} {d : Tmp} : a.put (some d) (a.tmps.getD d undef) = a := by
  simp only [Act.put]
  congr 1
  apply Array.ext
  · simp
  · intro i h1 h2
    by_cases hd : d = i
    · subst hd
      simp at h1
      simp [h1]
    · rw [Array.getElem_setIfInBounds_ne (h := hd)]
theorem relV_skip (M : List Place) : RelV M (.tup []) undef := by
  simp only [RelV, RelX]
  exact ⟨#[], rfl, RelL_nil.2 rfl⟩
theorem guarded0_sound {ops : Array Oper} {o : Oper} {st : St} {exec : St → (St → Option ρ) → Option ρ} {K : St → Option ρ} {r : ρ} (h : guarded0 ops o st exec K = some r) {M : List Place} {a : Act} (ht : RelT M st.tmps a.tmps) :
    (Region.wanted o (yielded ops a.tmps) = true ∧ ∃ st' : St, exec st' K = some r ∧ RelT M st'.tmps a.tmps ∧ st'.heap = st.heap) ∨
    (Region.wanted o (yielded ops a.tmps) = false ∧ ∃ st' : St, K (st'.put o.dst (.tup [])) = some r ∧ RelT M st'.tmps a.tmps ∧ st'.heap = st.heap) := by
  unfold guarded0 at h
  split at h
  · rename_i hg
    exact .inl ⟨by simp [Region.wanted, hg], st, h, ht, rfl⟩
  · rename_i j want hg
    split at h
    · rename_i oj hj
      split at h
      · rename_i d hd
        have hrd := ht.2 d
        have yes : ∀ b : Bool, a.tmps.getD d undef = .bool b → yielded ops a.tmps j = some b := by
          intro b hb
          unfold yielded
          simp only [hj, Option.bind_some, hd]
          have : a.tmps[d]? = some (.bool b) := by
            by_cases hlt : d < a.tmps.size
            · simp [hlt] at hb ⊢
              exact hb
            · simp [hlt, undef] at hb
          rw [this]
        have lit : ∀ b : Bool, a.tmps.getD d undef = .bool b → RelT M (st.put (some d) (.bool (some b) b)).tmps a.tmps := by
          intro b hb
          have h1 := ht.put (x := .bool (some b) b) (v := .bool b) (by simp [RelV, RelX]) d
          rw [← hb] at h1
          have := congrArg Act.tmps (put_self (a := a) (d := d))
          simp only [Act.put] at this
          rw [this] at h1
          exact h1
        split at h
        · rename_i b x hst
          rw [hst] at hrd
          obtain ⟨e, hl⟩ := relV_bool hrd
          have := hl b rfl
          subst this
          have hy := yes _ e
          cases hbw : x == want
          · rw [hbw] at h
            refine .inr ⟨?_, st, h, ht, rfl⟩
            simp only [Region.wanted, hg, hy]
            cases x <;> cases want <;> simp at hbw ⊢
          · rw [hbw] at h
            refine .inl ⟨?_, st, h, ht, rfl⟩
            simp only [Region.wanted, hg, hy]
            cases x <;> cases want <;> simp at hbw ⊢
        · rename_i x hst
          rw [hst] at hrd
          obtain ⟨e, _⟩ := relV_bool hrd
          have hy := yes _ e
          have hli := lit _ e
          have hwant : Region.wanted o (yielded ops a.tmps) = (x == want) := by
            simp only [Region.wanted, hg, hy]
            cases x <;> cases want <;> simp
          cases x <;> cases want <;> simp only [cond] at h
          · exact .inl ⟨by rw [hwant]; rfl, _, h, hli, rfl⟩
          · exact .inr ⟨by rw [hwant]; rfl, _, h, hli, rfl⟩
          · exact .inr ⟨by rw [hwant]; rfl, _, h, hli, rfl⟩
          · exact .inl ⟨by rw [hwant]; rfl, _, h, hli, rfl⟩
        · rename_i hst
          rw [hst] at hrd
          simp only [RelV, RelX] at hrd
          obtain ⟨vs, e, hl⟩ := hrd
          have e : a.tmps.getD d undef = .tuple vs := by simpa using e
          refine .inr ⟨?_, st, h, ht, rfl⟩
          have hy : yielded ops a.tmps j = none := by
            unfold yielded
            simp only [hj, Option.bind_some, hd]
            by_cases hlt : d < a.tmps.size
            · simp [hlt] at e ⊢
              rw [e]
            · simp [hlt]
          simp only [Region.wanted, hg, hy]
          rfl
        · cases h
      · cases h
    · cases h
def allRows : List AV → Bool
  | [] => true
  | .is _ _ _ :: r => allRows r
  | _ :: _ => false
def ixOf (st : St) : Op → Option (Tmp × IntKind × Int × Nat)
  | .indexAddr _ x (.tmp t) => match st.tmps.getD t .undef with
    | .int k none z => match st.get x with
      | .sl b _ len _ _ => match st.heap[b]? with
        | some (some ⟨.segs cs, _, _⟩) => match allRows cs with
          | true => none
          | false => some (t, k, z, len)
        | _ => none
      | .ptr b base none _ span => match st.heap[b]? with
        | some (some ⟨.segs cs, _, _⟩) => match dynAt cs base span with
          | some _ => none
          | none => some (t, k, z, span)
        | _ => none
      | _ => none
    | _ => none
  | .index _ x (.tmp t) => match st.tmps.getD t .undef with
    | .int k none z => match st.get x with
      | .agg cs => match dynAt cs 0 1 with
        | some _ => none
        | none => some (t, k, z, cs.length)
      | _ => none
    | _ => none
  | _ => none
theorem ixOf_spec {st : St} {op : Op} {t : Tmp} {k : IntKind} {z : Int} {n : Nat} (h : ixOf st op = some (t, k, z, n)) : st.tmps.getD t .undef = .int k none z := by
  unfold ixOf at h
  repeat' split at h
  all_goals first | (cases h; done) | (cases h; assumption)
def splitN (z : Int) (f : Int → Option ρ) : Nat → Nat → Option ρ
  | 0, _ => none
  | m + 1, j => cond (z == (j : Int)) (f (j : Int)) (splitN z f m (j + 1))
theorem splitN_spec {z : Int} {f : Int → Option ρ} {r : ρ} : ∀ {m j : Nat}, splitN z f m j = some r → f z = some r
  | 0, _, h => by cases h
  | m + 1, j, h => by
    unfold splitN at h
    cases hz : z == (j : Int)
    · rw [hz] at h; exact splitN_spec h
    · rw [hz] at h
      have : z = (j : Int) := by simpa using hz
      rw [this]
      exact h
def splitIx (o : Oper) (exec : St → (St → Option ρ) → Option ρ) (st : St) (K : St → Option ρ) : Option ρ :=
  match ixOf st o.op with
  | some (t, k, z, n) => splitN z (fun j => exec (st.put (some t) (.int k (some j) j)) K) n 0
  | none => exec st K
theorem splitIx_sound {o : Oper} {exec : St → (St → Option ρ) → Option ρ} {st : St} {K : St → Option ρ} {r : ρ} (h : splitIx o exec st K = some r) {M : List Place} {a : Act} (ht : RelT M st.tmps a.tmps) :
    ∃ st', exec st' K = some r ∧ RelT M st'.tmps a.tmps ∧ st'.heap = st.heap := by
  unfold splitIx at h
  split at h
  · rename_i t k z n hx
    refine ⟨_, splitN_spec h, ?_, rfl⟩
    have h0 := ht.2 t
    rw [ixOf_spec hx] at h0
    obtain ⟨e, hk, _⟩ := relV_int h0
    have h1 := ht.put (x := .int k (some z) z) (v := .int k z) (RelX_int.2 ⟨by simp, hk, fun m hm => by cases hm; rfl⟩) t
    rw [← e] at h1
    have := congrArg Act.tmps (put_self (a := a) (d := t))
    simp only [Act.put] at this
    rw [this] at h1
    exact h1
  · exact ⟨st, h, ht, rfl⟩
def guarded (ops : Array Oper) (o : Oper) (st : St) (exec : St → (St → Option ρ) → Option ρ) (K : St → Option ρ) : Option ρ :=
  guarded0 ops o st (splitIx o exec) K
theorem guarded_sound {ops : Array Oper} {o : Oper} {st : St} {exec : St → (St → Option ρ) → Option ρ} {K : St → Option ρ} {r : ρ} (h : guarded ops o st exec K = some r) {M : List Place} {a : Act} (ht : RelT M st.tmps a.tmps) :
    (Region.wanted o (yielded ops a.tmps) = true ∧ ∃ st' : St, exec st' K = some r ∧ RelT M st'.tmps a.tmps ∧ st'.heap = st.heap) ∨
    (Region.wanted o (yielded ops a.tmps) = false ∧ ∃ st' : St, K (st'.put o.dst (.tup [])) = some r ∧ RelT M st'.tmps a.tmps ∧ st'.heap = st.heap) := by
  rcases guarded0_sound h ht with ⟨hw, st', h1, h2, h3⟩ | hr
  · obtain ⟨st2, k1, k2, k3⟩ := splitIx_sound h1 h2
    exact .inl ⟨hw, st2, k1, k2, k3.trans h3⟩
  · exact .inr hr
def evList (P : Program) (cal : Cal ρ) (ops : Array Oper) : List Oper → St → (St → Option ρ) → Option ρ
  | [], st, K => K st
  | o :: l, st, K => guarded ops o st (evExec P cal o) fun st' => evList P cal ops l st' K
theorem evList_sound {P : Program} (hP : Callable P) {cal : Cal ρ} (hcal : ∀ f, CalAt P f (cal f)) {ops : Array Oper} {Q : Exit → Act → World → Prop} {K : St → Option ρ} {r : ρ} {B : Base} {w0 : World} : ∀ {l : List Oper} {st : St} {M : List Place} {a : Act} {w : World},
    evList P cal ops l st K = some r → Rel M st B w0 a w → (∀ M' st' a' w', Ext M M' → K st' = some r → Rel M' st' B w0 a' w' → Q .normal a' w') → wpList P ops Q l a w
  | [], st, M, a, w, h, hr, hn => hn M st a w (Ext.refl M) h hr
  | o :: l, st, M, a, w, h, hr, hn => by
    unfold wpList
    rcases guarded_sound h hr.tmps with ⟨hw, st', h', ht, hh⟩ | ⟨hw, st', h', ht, hh⟩
    · rw [if_pos hw]
      have hr' : Rel M st' B w0 a w := ⟨ht, hr.defers, by rw [hh]; exact hr.heap, hr.below⟩
      exact .inl (evExec_sound hP hcal h' hr' fun M' st2 a' w' hE hk hr2 => evList_sound hP hcal hk hr2 fun M2 st3 a3 w3 hE2 => hn M2 st3 a3 w3 (hE.trans hE2))
    · rw [if_neg (by rw [hw]; simp)]
      have hr' : Rel M st' B w0 a w := ⟨ht, hr.defers, by rw [hh]; exact hr.heap, hr.below⟩
      exact evList_sound hP hcal h' (hr'.put (relV_skip M) o.dst) hn
def evQExec (P : Program) (qcal : QCal ρ) (o : Oper) (st : St) (K : St → Option ρ) : Option ρ :=
  match aq P st.heap st.get o.op with
  | some (req, x) => cond req (K (st.put o.dst x)) none
  | none => match callOf st.get o.op with
    | some (f, args) => match P.funcs[f]? with
      | some fn => match fn.body with
        | some _ => qcal f args st.heap fun x => K (st.put o.dst x)
        | none => none
      | none => none
    | none => none
def evQList (P : Program) (qcal : QCal ρ) (ops : Array Oper) : List Oper → St → (St → Option ρ) → Option ρ
  | [], st, K => K st
  | o :: l, st, K => guarded ops o st (evQExec P qcal o) fun st' => evQList P qcal ops l st' K
theorem evQExec_sound {P : Program} (hP : Callable P) {qcal : QCal ρ} (hq : ∀ f, QCalAt P f (qcal f)) {o : Oper} {st : St} {K : St → Option ρ} {r : ρ} (h : evQExec P qcal o st K = some r) {M : List Place} {B : Base} {a : Act} {w : World} (ht : RelT M st.tmps a.tmps) (hH : RelH M st.heap B w)
    {next : Act → Prop} (hn : ∀ st' v, K st' = some r → RelT M st'.tmps (a.put o.dst v).tmps → st'.heap = st.heap → next (a.put o.dst v)) : o.quiet P a (fun w' => Below w.heap.size w w') next := by
  have hg : ∀ x, RelV M (st.get x) (a.eval x) := fun x => get_rel ht x
  have putT : ∀ (x : AV) (v : Value), RelV M x v → RelT M (st.put o.dst x).tmps (a.put o.dst v).tmps ∧ (st.put o.dst x).heap = st.heap := by
    intro x v hv
    cases o.dst with
    | none => exact ⟨ht, rfl⟩
    | some d => exact ⟨ht.put hv d, rfl⟩
  unfold evQExec at h
  split at h
  · rename_i req x hqq
    cases req with
    | false => cases h
    | true =>
      obtain ⟨v, hv, hrun⟩ := aq_sound hH hg hqq rfl
      obtain ⟨p1, p2⟩ := putT x v hv
      refine ⟨v, fun w' hb => ?_, hn _ v h p1 p2⟩
      unfold Oper.quietAt
      rw [hrun w' hb]
      exact ⟨rfl, rfl⟩
  · split at h
    · rename_i f args hc
      split at h
      · rename_i fn hf
        split at h
        · rename_i c hb
          obtain ⟨vs, hl, hrun⟩ := callOf_run hP hg hc hf (by rw [hb]; rfl)
          obtain ⟨v, av, hk, hv, hcalls⟩ := hq f args st.heap _ r h M B w vs hl hH
          obtain ⟨p1, p2⟩ := putT av v hv
          refine ⟨v, fun w' hbw => ?_, hn _ v hk p1 p2⟩
          unfold Oper.quietAt
          rw [hrun w']
          exact ⟨rfl, (hcalls w' hbw).mono fun e w'' ⟨he, hb2⟩ => ⟨he, hbw.trans (hb2.mono hbw.size)⟩⟩
        · cases h
      · cases h
    · cases h
theorem evQList_sound {P : Program} (hP : Callable P) {qcal : QCal ρ} (hq : ∀ f, QCalAt P f (qcal f)) {ops : Array Oper} {Qa : Act → Prop} {K : St → Option ρ} {r : ρ} {M : List Place} {B : Base} {w : World} {H : Heap} {ds : List Deferred} (hH : RelH M H B w) : ∀ {l : List Oper} {st : St} {a : Act},
    evQList P qcal ops l st K = some r → RelT M st.tmps a.tmps → st.heap = H → a.defers = ds → (∀ st' a', K st' = some r → RelT M st'.tmps a'.tmps → st'.heap = H → a'.defers = ds → Qa a') → wpQuiet P ops (fun w' => Below w.heap.size w w') Qa l a
  | [], st, a, h, ht, hh, hd, hn => hn st a h ht hh hd
  | o :: l, st, a, h, ht, hh, hd, hn => by
    unfold wpQuiet
    have dput : ∀ v, (a.put o.dst v).defers = ds := fun v => by cases o.dst <;> exact hd
    rcases guarded_sound h ht with ⟨hw, st', h', ht', hh'⟩ | ⟨hw, st', h', ht', hh'⟩
    · rw [if_pos hw]
      exact evQExec_sound hP hq h' ht' (by rw [hh', hh]; exact hH) fun st2 v hk ht2 hh2 => evQList_sound hP hq hH hk ht2 (by rw [hh2, hh', hh]) (dput v) hn
    · rw [if_neg (by rw [hw]; simp)]
      refine evQList_sound hP hq hH h' ?_ ?_ (dput undef) hn
      · cases o.dst with
        | none => exact ht'
        | some d => exact ht'.put (relV_skip M) d
      · cases o.dst <;> exact hh'.trans hh
end Go.AE
set_option linter.unusedVariables false
set_option linter.unusedSimpArgs false
namespace Go.AE
open Go Go.RowKit
variable {ρ : Type}
theorem RelH.addS {M : List Place} {H : Heap} {B : Base} {w : World} (r : RelH M H B w) {o : AObj} {pl : Place} (hok : ObjOk M o pl B w) (hpin : ∀ k, o.pin = some k → B.pin k pl) (hvis : pl.nil = false → B.vis pl.blk)
    (hsep : ∀ (i : Nat) (oi : AObj) (pi : Place), H[i]? = some (some oi) → M[i]? = some pi → (oi.own = true ∨ o.own = true) → pi.nil = false → pl.nil = false → pi.blk ≠ pl.blk)
    (hz : ∀ k ob, pl.fz k = some ob → FzAt M k ob) (hfo : o.own = true → pl.nil = false → ¬ B.f pl.blk ∧ ∀ ob, ¬ FzAt M pl.blk ob) : RelH (M ++ [pl]) (H ++ [some o]) B w := by
  have hE : Ext M (M ++ [pl]) := Ext.snoc M _
  have hlen := r.len
  have back : ∀ (i : Nat) (oi : AObj), (H ++ [some o])[i]? = some (some oi) → (i < M.length ∧ H[i]? = some (some oi)) ∨ (i = M.length ∧ oi = o) := by
    intro i oi hi
    rw [List.getElem?_append] at hi
    split at hi
    · exact .inl ⟨by omega, hi⟩
    · have h3 : i - H.length = 0 := by
        rcases Nat.eq_zero_or_pos (i - H.length) with h | h
        · exact h
        · rw [List.getElem?_eq_none (by simp; omega)] at hi; cases hi
      rw [h3] at hi
      simp at hi
      exact .inr ⟨by omega, hi.symm⟩
  have place : ∀ (i : Nat) (pi : Place), (M ++ [pl])[i]? = some pi → i < M.length → M[i]? = some pi := by
    intro i pi hpi hlt
    rwa [List.getElem?_append_left hlt] at hpi
  have last : ∀ (pi : Place), (M ++ [pl])[M.length]? = some pi → pi = pl := by
    intro pi hpi
    simp at hpi
    exact hpi.symm
  have mono : ∀ (oi : AObj) (pi : Place), ObjOk M oi pi B w → ObjOk (M ++ [pl]) oi pi B w := by
    intro oi pi h
    rcases h with ⟨n1, n2, n3⟩ | ⟨n1, cs1, el1, fz1, g1, g2, g3, g4, g5⟩
    · exact .inl ⟨n1, n2, n3.mono hE⟩
    · exact .inr ⟨n1, cs1, el1, fz1, g1, g2, g3, g4.mono hE, g5⟩
  refine ⟨by simp [hlen], r.base, fun i oi hi => ?_, fun i j oi oj pi pj hi hj hpi hpj hne how hni hnj => ?_, fun i oi pi k hi hpi hk => ?_, fun i oi pi hi hpi hn => ?_, fun k ob hk => r.fz k ob (FzAt.snocS hz hk), fun i oi pi hi hpi how hn => ?_, r.bf⟩
  · rcases back i oi hi with ⟨hlt, hi'⟩ | ⟨rfl, rfl⟩
    · obtain ⟨pi, hpi, hoki⟩ := r.obj i oi hi'
      exact ⟨pi, hE _ _ hpi, mono _ _ hoki⟩
    · exact ⟨pl, by simp, mono _ _ hok⟩
  · rcases back i oi hi with ⟨hlt, hi'⟩ | ⟨rfl, rfl⟩ <;> rcases back j oj hj with ⟨hlt2, hj'⟩ | ⟨rfl, rfl⟩
    · exact r.sep i j oi oj pi pj hi' hj' (place i pi hpi hlt) (place j pj hpj hlt2) hne how hni hnj
    · have := last pj hpj
      subst this
      exact hsep i oi pi hi' (place i pi hpi hlt) (.inl how) hni hnj
    · have := last pi hpi
      subst this
      exact fun h => hsep j oj pj hj' (place j pj hpj hlt2) (.inr how) hnj hni h.symm
    · exact absurd rfl hne
  · rcases back i oi hi with ⟨hlt, hi'⟩ | ⟨rfl, rfl⟩
    · exact r.pin i oi pi k hi' (place i pi hpi hlt) hk
    · rw [last pi hpi]; exact hpin k hk
  · rcases back i oi hi with ⟨hlt, hi'⟩ | ⟨rfl, rfl⟩
    · exact r.vis i oi pi hi' (place i pi hpi hlt) hn
    · rw [last pi hpi] at hn ⊢; exact hvis hn
  · rcases back i oi hi with ⟨hlt, hi'⟩ | ⟨rfl, rfl⟩
    · exact ⟨(r.fo i oi pi hi' (place i pi hpi hlt) how hn).1, fun ob h => (r.fo i oi pi hi' (place i pi hpi hlt) how hn).2 ob (FzAt.snocS hz h)⟩
    · rw [last pi hpi] at hn ⊢; exact ⟨(hfo how hn).1, fun ob h => (hfo how hn).2 ob (FzAt.snocS hz h)⟩
theorem RelH.add {M : List Place} {H : Heap} {B : Base} {w : World} (r : RelH M H B w) {o : AObj} {pl : Place} (hok : ObjOk M o pl B w) (hpin : ∀ k, o.pin = some k → B.pin k pl) (hvis : pl.nil = false → B.vis pl.blk)
    (hsep : ∀ (i : Nat) (oi : AObj) (pi : Place), H[i]? = some (some oi) → M[i]? = some pi → (oi.own = true ∨ o.own = true) → pi.nil = false → pl.nil = false → pi.blk ≠ pl.blk)
    (hz : pl.fz = noFz) (hfo : o.own = true → pl.nil = false → ¬ B.f pl.blk ∧ ∀ ob, ¬ FzAt M pl.blk ob) : RelH (M ++ [pl]) (H ++ [some o]) B w :=
  r.addS hok hpin hvis hsep (fun k ob h => by rw [hz] at h; cases h) hfo
def freezeH (H : Heap) : List Nat → Heap
  | [] => H
  | b :: bs => match H[b]? with
    | some (some o) => (freezeH H bs).set b (some { o with own := false })
    | _ => freezeH H bs
def present (H : Heap) (b : Nat) : Bool := match H[b]? with
  | some (some _) => true
  | _ => false
def ownAt (H : Heap) (b : Nat) : Bool := match H[b]? with
  | some (some o) => o.own
  | _ => false
def thaw (bs : List Nat) : Heap → Nat → Heap → Option Heap
  | [], _, H' => some (H'.map fun x => match x with | some o => if o.own then some o else none | none => none)
  | _ :: _, _, [] => none
  | none :: H, i, none :: H' => (thaw bs H (i + 1) H').map (none :: ·)
  | none :: _, _, some _ :: _ => none
  | some _ :: H, i, none :: H' => (thaw bs H (i + 1) H').map (none :: ·)
  | some o :: H, i, some o' :: H' => (thaw bs H (i + 1) H').map (some (if (bs.contains i && o.own) = true then { o' with own := true } else o') :: ·)
def thawO (bs : List Nat) (H H' : Heap) : Option Heap := if (bs.any (ownAt H)) = true then thaw bs H 0 H' else some H'
def Base.but (B : Base) (M : List Place) (bs : List Nat) : Base := ⟨fun k => B.w k ∧ ∀ b ∈ bs, ∀ pl, M[b]? = some pl → pl.nil = false → k ≠ pl.blk, B.vis, B.pin, fun k => B.f k ∨ ∃ ob, FzAt M k ob, B.ds⟩
theorem freezeH_get (H : Heap) : ∀ (bs : List Nat) (i : Nat) (o : AObj), (freezeH H bs)[i]? = some (some o) → ∃ o', H[i]? = some (some o') ∧ o'.c = o.c ∧ o'.pin = o.pin ∧ (o.own = true → o'.own = true ∧ i ∉ bs)
  | [], i, o, h => ⟨o, h, rfl, rfl, fun e => ⟨e, by simp⟩⟩
  | b :: bs, i, o, h => by
    unfold freezeH at h
    split at h
    · rename_i ob hb
      by_cases hi : b = i
      · subst hi
        by_cases hl : b < (freezeH H bs).length
        · rw [List.getElem?_set_self hl] at h
          cases h
          exact ⟨ob, hb, rfl, rfl, fun e => by cases e⟩
        · rw [List.getElem?_eq_none (by simpa using hl)] at h
          cases h
      · rw [List.getElem?_set_ne hi] at h
        obtain ⟨o', h1, h2, h3, h4⟩ := freezeH_get H bs i o h
        exact ⟨o', h1, h2, h3, fun e => ⟨(h4 e).1, by simp only [List.mem_cons, not_or]; exact ⟨fun e => hi e.symm, (h4 e).2⟩⟩⟩
    · rename_i hb
      obtain ⟨o', h1, h2, h3, h4⟩ := freezeH_get H bs i o h
      refine ⟨o', h1, h2, h3, fun e => ⟨(h4 e).1, ?_⟩⟩
      simp only [List.mem_cons, not_or]
      refine ⟨fun e => ?_, (h4 e).2⟩
      subst e
      exact hb _ h1
theorem freezeH_len (H : Heap) : ∀ bs, (freezeH H bs).length = H.length
  | [] => rfl
  | b :: bs => by
    unfold freezeH
    split
    · rw [List.length_set, freezeH_len H bs]
    · exact freezeH_len H bs
theorem objOk_lt {M : List Place} {o : AObj} {pl : Place} {B : Base} {w : World} (h : ObjOk M o pl B w) (hn : pl.nil = false) : pl.blk < w.heap.size := by
  rcases h with ⟨h1, _⟩ | ⟨_, cs, el, fz, hg, _⟩
  · rw [hn] at h1; cases h1
  · exact (Array.getElem?_eq_some_iff.1 hg).1
theorem RelH.freeze {M : List Place} {H : Heap} {B : Base} {w : World} (r : RelH M H B w) {bs : List Nat} (hp : bs.all (present H) = true) : RelH M (freezeH H bs) (B.but M bs) w := by
  have pres : ∀ b ∈ bs, ∃ o, H[b]? = some (some o) := by
    intro b hb
    have := List.all_eq_true.1 hp b hb
    unfold present at this
    split at this
    · rename_i o ho; exact ⟨o, ho⟩
    · cases this
  refine ⟨by rw [freezeH_len, r.len], fun k hk => ⟨⟨(r.base k hk).1, ?_⟩, (r.base k hk).2⟩, fun i o ho => ?_, fun i j oi oj pi pj hi hj hpi hpj hij hoi hni hnj => ?_, fun i o pl k ho hpl hk => ?_, fun i o pl ho hpl hn => ?_, fun k ob hk => ⟨(r.fz k ob hk).1, (r.fz k ob hk).2.1, .inr (.inr ⟨ob, hk⟩)⟩, fun i o pl ho hpl how hn => ?_, fun k hk h => ?_⟩
  · intro b hb pl hpl hn e
    obtain ⟨o, ho⟩ := pres b hb
    obtain ⟨pl', hp', hok⟩ := r.obj b o ho
    rw [hpl] at hp'; cases hp'
    have := objOk_lt hok hn
    omega
  · obtain ⟨o', h1, h2, h3, h4⟩ := freezeH_get H bs i o ho
    obtain ⟨pl, hpl, hok⟩ := r.obj i o' h1
    refine ⟨pl, hpl, ?_⟩
    rcases hok with ⟨g1, g2, g3⟩ | ⟨g1, cs, el, fz, g2, g3, g4, g5, g6⟩
    · exact .inl ⟨g1, g2, h2 ▸ g3⟩
    · refine .inr ⟨g1, cs, el, fz, g2, g3, g4, h2 ▸ g5, fun e => ?_⟩
      obtain ⟨e1, e2⟩ := h4 e
      obtain ⟨q1, q2, q3⟩ := g6 e1
      refine ⟨q1, q2, q3, fun b hb pb hpb hnb => ?_⟩
      obtain ⟨ob, hob⟩ := pres b hb
      exact r.sep i b o' ob pl pb h1 hob hpl hpb (fun e => e2 (e ▸ hb)) e1 g1 hnb
  · obtain ⟨oi', h1, _, _, h4⟩ := freezeH_get H bs i oi hi
    obtain ⟨oj', k1, _, _, _⟩ := freezeH_get H bs j oj hj
    exact r.sep i j oi' oj' pi pj h1 k1 hpi hpj hij (h4 hoi).1 hni hnj
  · obtain ⟨o', h1, h2, h3, _⟩ := freezeH_get H bs i o ho
    exact r.pin i o' pl k h1 hpl (h3 ▸ hk)
  · obtain ⟨o', h1, _, _, _⟩ := freezeH_get H bs i o ho
    exact r.vis i o' pl h1 hpl hn
  · obtain ⟨o', h1, _, _, h4⟩ := freezeH_get H bs i o ho
    obtain ⟨q1, q2⟩ := r.fo i o' pl h1 hpl (h4 how).1 hn
    exact ⟨fun h => h.elim q1 fun ⟨ob, h⟩ => q2 ob h, q2⟩
  · rcases h with h | ⟨ob, h⟩
    · exact r.bf k hk h
    · exact absurd (r.fz_lt h) (by omega)
theorem thaw_get (bs : List Nat) : ∀ {H : Heap} {n : Nat} {H' H2 : Heap}, thaw bs H n H' = some H2 → H2.length = H'.length ∧ ∀ (i : Nat) (o : AObj), H2[i]? = some (some o) →
    ∃ o', H'[i]? = some (some o') ∧ o'.c = o.c ∧ o'.pin = o.pin ∧ ((H.length ≤ i ∧ o'.own = true ∧ o.own = true) ∨ (∃ oi, H[i]? = some (some oi) ∧ (o'.own = o.own ∨ ((n + i) ∈ bs ∧ oi.own = true ∧ o.own = true))))
  | [], n, H', H2, h => by
    simp only [thaw, Option.some.injEq] at h
    subst h
    refine ⟨by simp, fun i o ho => ?_⟩
    rw [List.getElem?_map] at ho
    cases hx : H'[i]? with
    | none => rw [hx] at ho; cases ho
    | some x =>
      rw [hx] at ho
      cases x with
      | none => simp at ho
      | some o' =>
        simp only [Option.map_some, Option.some.injEq] at ho
        split at ho
        · rename_i hown
          cases ho
          exact ⟨o, rfl, rfl, rfl, .inl ⟨by simp, hown, hown⟩⟩
        · cases ho
  | x :: H, n, [], H2, h => by cases x <;> simp [thaw] at h
  | none :: H, n, none :: H', H2, h => by
    simp only [thaw, Option.map_eq_some_iff] at h
    obtain ⟨H3, h3, rfl⟩ := h
    obtain ⟨hl, hg⟩ := thaw_get bs h3
    refine ⟨by simp [hl], fun i o ho => ?_⟩
    cases i with
    | zero => simp at ho
    | succ i =>
      obtain ⟨o', g1, g2, g3, g4⟩ := hg i o (by simpa using ho)
      refine ⟨o', by simpa using g1, g2, g3, ?_⟩
      rcases g4 with ⟨q1, q2⟩ | ⟨oi, q1, q2⟩
      · exact .inl ⟨by simp; omega, q2⟩
      · exact .inr ⟨oi, by simpa using q1, by rw [show n + (i + 1) = n + 1 + i by omega]; exact q2⟩
  | none :: H, n, some o :: H', H2, h => by simp [thaw] at h
  | some oo :: H, n, none :: H', H2, h => by
    simp only [thaw, Option.map_eq_some_iff] at h
    obtain ⟨H3, h3, rfl⟩ := h
    obtain ⟨hl, hg⟩ := thaw_get bs h3
    refine ⟨by simp [hl], fun i o ho => ?_⟩
    cases i with
    | zero => simp at ho
    | succ i =>
      obtain ⟨o', g1, g2, g3, g4⟩ := hg i o (by simpa using ho)
      refine ⟨o', by simpa using g1, g2, g3, ?_⟩
      rcases g4 with ⟨q1, q2⟩ | ⟨oi, q1, q2⟩
      · exact .inl ⟨by simp; omega, q2⟩
      · exact .inr ⟨oi, by simpa using q1, by rw [show n + (i + 1) = n + 1 + i by omega]; exact q2⟩
  | some oo :: H, n, some oo' :: H', H2, h => by
    simp only [thaw, Option.map_eq_some_iff] at h
    obtain ⟨H3, h3, rfl⟩ := h
    obtain ⟨hl, hg⟩ := thaw_get bs h3
    refine ⟨by simp [hl], fun i o ho => ?_⟩
    cases i with
    | zero =>
      simp only [List.getElem?_cons_zero, Option.some.injEq] at ho
      subst ho
      refine ⟨oo', rfl, by split <;> rfl, by split <;> rfl, .inr ⟨oo, rfl, ?_⟩⟩
      split
      · rename_i hc
        simp only [Bool.and_eq_true, List.contains_iff_mem] at hc
        exact .inr ⟨hc.1, hc.2, rfl⟩
      · exact .inl rfl
    | succ i =>
      obtain ⟨o', g1, g2, g3, g4⟩ := hg i o (by simpa using ho)
      refine ⟨o', by simpa using g1, g2, g3, ?_⟩
      rcases g4 with ⟨q1, q2⟩ | ⟨oi, q1, q2⟩
      · exact .inl ⟨by simp; omega, q2⟩
      · exact .inr ⟨oi, by simpa using q1, by rw [show n + (i + 1) = n + 1 + i by omega]; exact q2⟩
theorem RelH.rebase {M : List Place} {H : Heap} {B B' : Base} {w : World} (r : RelH M H B w) (hw : ∀ k, B.w k → B'.w k) (hv : ∀ k, B.vis k → B'.vis k) (hp : ∀ k pl, B.pin k pl → B'.pin k pl) (hf : ∀ k ob, FzAt M k ob → B.w k ∨ B.f k → B'.w k ∨ B'.f k) (hf2 : ∀ k, B'.f k → B.f k) : RelH M H B' w := by
  refine ⟨r.len, fun k hk => ⟨hw _ (r.base k hk).1, hv _ (r.base k hk).2⟩, fun i o ho => ?_, r.sep, fun i o pl k h1 h2 h3 => hp _ _ (r.pin i o pl k h1 h2 h3), fun i o pl h1 h2 h3 => hv _ (r.vis i o pl h1 h2 h3), fun k ob h => ⟨(r.fz k ob h).1, hv _ (r.fz k ob h).2.1, hf k ob h (r.fz k ob h).2.2⟩, fun i o pl h1 h2 h3 h4 => ⟨fun h => (r.fo i o pl h1 h2 h3 h4).1 (hf2 _ h), (r.fo i o pl h1 h2 h3 h4).2⟩, fun k hk h => r.bf k hk (hf2 _ h)⟩
  obtain ⟨pl, hpl, hok⟩ := r.obj i o ho
  refine ⟨pl, hpl, ?_⟩
  rcases hok with hok | ⟨g1, cs, el, fz, g2, g3, g4, g5, g6⟩
  · exact .inl hok
  · exact .inr ⟨g1, cs, el, fz, g2, g3, g4, g5, fun e => ⟨(g6 e).1, (g6 e).2.1, hw _ (g6 e).2.2⟩⟩
theorem but_beneath {B : Base} {M : List Place} {bs : List Nat} {w w' : World} (h : Beneath (B.but M bs) w w') : Beneath B w w' :=
  ⟨h.os, h.tape, h.output, h.size, fun k hk hw => h.block k hk fun h2 => hw h2.1⟩
theorem RelH.thaw {M M' : List Place} {H H' H2 : Heap} {B : Base} {w w' : World} (r : RelH M H B w) {bs : List Nat} (r' : RelH M' H' (B.but M bs) w') (hE : Ext M M') (hb : Beneath (B.but M bs) w w') (h : thawO bs H H' = some H2) : RelH M' H2 B w' := by
  have r2 : RelH M' H' B w' := r'.rebase (fun k h => h.1) (fun k h => h) (fun k pl h => h) (fun k ob _ h => h.elim (fun h => .inl h.1) fun h => h.elim .inr fun ⟨ob, h⟩ => (r.fz k ob h).2.2) (fun k h => .inl h)
  unfold thawO at h
  split at h
  case isFalse => cases h; exact r2
  obtain ⟨hl, hg⟩ := thaw_get bs h
  have was : ∀ (i : Nat) (o o' oi : AObj) (pl : Place), H'[i]? = some (some o') → M'[i]? = some pl → H[i]? = some (some oi) → oi.own = true → i ∈ bs → pl.nil = false →
      M[i]? = some pl ∧ ObjOk M oi pl B w ∧ w'.heap[pl.blk]? = w.heap[pl.blk]? := by
    intro i o o' oi pl _ hpl hoi hown hi hn
    obtain ⟨pl0, hp0, hok⟩ := r.obj i oi hoi
    have := hE i pl0 hp0
    rw [hpl] at this; cases this
    refine ⟨hp0, hok, hb.block _ (objOk_lt hok hn) fun h2 => ?_⟩
    exact h2.2 i hi pl hp0 hn rfl
  refine ⟨by rw [hl, r'.len], r2.base, fun i o ho => ?_, fun i j oi oj pi pj hi hj hpi hpj hij hoi hni hnj => ?_, fun i o pl k ho hpl hk => ?_, fun i o pl ho hpl hn => ?_, r2.fz, fun i o pl ho hpl how hn => ?_, r2.bf⟩
  · obtain ⟨o', g1, g2, g3, g4⟩ := hg i o ho
    obtain ⟨pl, hpl, hok⟩ := r2.obj i o' g1
    refine ⟨pl, hpl, ?_⟩
    rcases hok with ⟨q1, q2, q3⟩ | ⟨q1, cs, el, fz, q2, q3, q4, q5, q6⟩
    · exact .inl ⟨q1, q2, g2 ▸ q3⟩
    · refine .inr ⟨q1, cs, el, fz, q2, q3, q4, g2 ▸ q5, fun e => ?_⟩
      rcases g4 with ⟨_, s2, _⟩ | ⟨oi, s1, s2⟩
      · exact q6 s2
      · rcases s2 with s2 | ⟨s2, s3, _⟩
        · exact q6 (s2.trans e)
        · rw [Nat.zero_add] at s2
          obtain ⟨t1, t2, t3⟩ := was i o o' oi pl g1 hpl s1 s3 s2 q1
          rcases t2 with ⟨u1, _⟩ | ⟨_, cs0, el0, fz0, u1, u2, u3, u4, u5⟩
          · rw [q1] at u1; cases u1
          · rw [t3, u1] at q2
            cases q2
            exact u5 s3
  · obtain ⟨oi', g1, g2, g3, g4⟩ := hg i oi hi
    obtain ⟨oj', k1, k2, k3, k4⟩ := hg j oj hj
    rcases g4 with ⟨_, s2, _⟩ | ⟨oii, s1, s2⟩
    · exact r2.sep i j oi' oj' pi pj g1 k1 hpi hpj hij s2 hni hnj
    · rcases s2 with s2 | ⟨s2, s3, _⟩
      · exact r2.sep i j oi' oj' pi pj g1 k1 hpi hpj hij (s2.trans hoi) hni hnj
      · rcases k4 with ⟨_, v2, _⟩ | ⟨ojj, v1, _⟩
        · exact fun e => r2.sep j i oj' oi' pj pi k1 g1 hpj hpi (Ne.symm hij) v2 hnj hni e.symm
        · rw [Nat.zero_add] at s2
          obtain ⟨p0, hp0, _⟩ := r.obj i oii s1
          obtain ⟨p1, hp1, _⟩ := r.obj j ojj v1
          have e0 := hE i p0 hp0
          have e1 := hE j p1 hp1
          rw [hpi] at e0; cases e0
          rw [hpj] at e1; cases e1
          exact r.sep i j oii ojj pi pj s1 v1 hp0 hp1 hij s3 hni hnj
  · obtain ⟨o', g1, g2, g3, _⟩ := hg i o ho
    exact r2.pin i o' pl k g1 hpl (g3 ▸ hk)
  · obtain ⟨o', g1, _, _, _⟩ := hg i o ho
    exact r2.vis i o' pl g1 hpl hn
  · obtain ⟨o', g1, g2, g3, g4⟩ := hg i o ho
    rcases g4 with ⟨_, s2, _⟩ | ⟨oi, s1, s2⟩
    · exact r2.fo i o' pl g1 hpl s2 hn
    · rcases s2 with s2 | ⟨s2, s3, _⟩
      · exact r2.fo i o' pl g1 hpl (s2.trans how) hn
      · rw [Nat.zero_add] at s2
        obtain ⟨t1, _, _⟩ := was i o o' oi pl g1 hpl s1 s3 s2 hn
        obtain ⟨q1, q2⟩ := r.fo i oi pl s1 t1 s3 hn
        refine ⟨q1, fun ob h => ?_⟩
        rcases (r'.fz _ ob h).2.2 with h1 | h1 | ⟨ob', h1⟩
        · exact h1.2 i s2 pl t1 hn rfl
        · exact q1 h1
        · exact q2 ob' h1
def evHeld (P : Program) (cal : Cal ρ) (o : Oper) (bs : List Nat) (st : St) (K : St → Option ρ) : Option ρ :=
  if bs.all (present st.heap) = true then
    evExec P cal o ⟨st.tmps, freezeH st.heap bs⟩ fun s' => match thawO bs st.heap s'.heap with
      | some H => K ⟨s'.tmps, H⟩
      | none => none
  else none
theorem evHeld_sound {P : Program} (hP : Callable P) {cal : Cal ρ} (hcal : ∀ f, CalAt P f (cal f)) {o : Oper} {bs : List Nat} {st : St} {K : St → Option ρ} {r : ρ} (h : evHeld P cal o bs st K = some r) {M : List Place} {B : Base} {w0 : World} {a : Act} {w : World} (hr : Rel M st B w0 a w)
    {next : Act → World → Prop} {Q : Exit → Act → World → Prop} (hn : ∀ M' st' a' w', Ext M M' → K st' = some r → Rel M' st' B w0 a' w' → (∀ b ∈ bs, ∀ pl, M[b]? = some pl → pl.nil = false → w'.heap[pl.blk]? = w.heap[pl.blk]?) → (∃ v, a' = a.put o.dst v) → next a' w') : o.wp P a w next Q := by
  unfold evHeld at h
  split at h
  case isFalse => cases h
  rename_i hp
  have hr1 : Rel M ⟨st.tmps, freezeH st.heap bs⟩ (B.but M bs) w a w := ⟨hr.tmps, hr.defers, hr.heap.freeze hp, Beneath.refl _ _⟩
  refine evExec_act hP hcal h hr1 fun M' st' a' w' hE hk hr' hact => ?_
  split at hk
  · rename_i H2 ht
    refine hn M' _ a' w' hE hk ⟨hr'.tmps, hr'.defers, hr.heap.thaw hr'.heap hE hr'.below ht, hr.below.trans (but_beneath hr'.below)⟩ (fun b hb pl hpl hnil => ?_) hact
    have := List.all_eq_true.1 hp b hb
    unfold present at this
    split at this
    · rename_i o' ho
      obtain ⟨pl', hp', hok⟩ := hr.heap.obj b o' ho
      rw [hpl] at hp'; cases hp'
      exact hr'.below.block _ (objOk_lt hok hnil) fun h2 => h2.2 b hb pl hpl hnil rfl
    · cases this
  · cases hk
section
variable {P : Program} {ops : Array Oper} {Q : Exit → Act → World → Prop}
def depB (ops : Array Oper) : Nat → Nat → Nat → Bool
  | 0, _, _ => false
  | n + 1, j, i => match ops[j]? with
    | some o => o.after.any fun e => Region.binds .any e && (e.on == i || depB ops n e.on i)
    | none => false
def Closed (ops : Array Oper) (listed : Array Bool) : Prop := ∀ j o, ops[j]? = some o → listed.getD j false = true → ∀ e ∈ o.after, Region.binds .any e = true → listed.getD e.on false = true
theorem getD_set_cases {listed : Array Bool} {i j : Nat} (h : (listed.setIfInBounds i true).getD j false = true) : i = j ∨ listed.getD j false = true := by
  by_cases hij : i = j
  · exact .inl hij
  · rw [getD_set_ne false hij] at h
    exact .inr h
theorem Closed.set {listed : Array Bool} {i : Nat} (h : Closed ops listed) (hr : i ∈ Region.ready .any ops listed) : Closed ops (listed.setIfInBounds i true) := by
  intro j o ho hj e he hb
  rcases getD_set_cases hj with rfl | hj
  · obtain ⟨_, o', ho', hall⟩ := mem_ready.1 hr
    rw [ho] at ho'; cases ho'
    exact getD_set_true (hall e he hb)
  · exact getD_set_true (h j o ho hj e he hb)
theorem dep_listed {listed : Array Bool} (hc : Closed ops listed) : ∀ {n k i : Nat}, listed.getD k false = true → depB ops n k i = true → listed.getD i false = true
  | 0, _, _, _, h => by cases h
  | n + 1, k, i, hk, h => by
    unfold depB at h
    split at h
    · rename_i o ho
      obtain ⟨e, he, hb⟩ := Array.any_eq_true'.1 h
      simp only [Bool.and_eq_true, Bool.or_eq_true, beq_iff_eq] at hb
      have h1 := hc k o ho hk e he hb.1
      rcases hb.2 with h2 | h2
      · rw [← h2]; exact h1
      · exact dep_listed hc h1 h2
    · cases h
theorem dep_ready {listed : Array Bool} (hc : Closed ops listed) {n j i : Nat} (hj : j ∈ Region.ready .any ops listed) (hi : listed.getD i false = false) : depB ops n j i = false := by
  cases n with
  | zero => rfl
  | succ n =>
    cases h : depB ops (n + 1) j i with
    | false => rfl
    | true =>
      exfalso
      unfold depB at h
      obtain ⟨_, o, ho, hall⟩ := mem_ready.1 hj
      rw [ho] at h
      obtain ⟨e, he, hb⟩ := Array.any_eq_true'.1 h
      simp only [Bool.and_eq_true, Bool.or_eq_true, beq_iff_eq] at hb
      have h1 := hall e he hb.1
      rcases hb.2 with h2 | h2
      · rw [h2, hi] at h1; cases h1
      · rw [dep_listed hc h1 h2] at hi; cases hi
def wpAnyD (P : Program) (ops : Array Oper) (Q : Exit → Act → World → Prop) (N : Nat) : Nat → List (Nat × Nat) → Array Bool → Act → World → Prop
  | 0, _, listed, a, w => Region.ready .any ops listed = [] ∧ Q .normal a w
  | f + 1, Z, listed, a, w =>
    (Region.ready .any ops listed = [] → Q .normal a w) ∧
    ∀ j ∈ Region.ready .any ops listed, wpOp P ops Q j (fun a' w' => (∀ p ∈ Z, depB ops N j p.1 = false → w'.heap[p.2]? = w.heap[p.2]?) ∧ ∃ Z', (∀ p ∈ Z, p ∈ Z') ∧ wpAnyD P ops Q N f Z' (listed.setIfInBounds j true) a' w') a w
theorem wpAny_of_D {N : Nat} : ∀ (f : Nat) (Z : List (Nat × Nat)) (listed : Array Bool) (a : Act) (w : World), wpAnyD P ops Q N f Z listed a w → wpAny P .any ops Q f listed a w
  | 0, _, _, _, _, h => h
  | f + 1, _, _, _, _, h => ⟨h.1, fun i hi => wpOp_mono (fun a' w' h' => by obtain ⟨_, Z', _, h2⟩ := h'; exact wpAny_of_D f Z' _ a' w' h2) (h.2 i hi)⟩
theorem wpAnyD_less {N : Nat} {Z Z0 : List (Nat × Nat)} (hz : ∀ p ∈ Z0, p ∈ Z) : ∀ {f : Nat} {listed : Array Bool} {a : Act} {w : World}, wpAnyD P ops Q N f Z listed a w → wpAnyD P ops Q N f Z0 listed a w
  | 0, _, _, _, h => h
  | f + 1, _, _, _, h => ⟨h.1, fun i hi => wpOp_mono (fun a' w' h' => by
      obtain ⟨h1, Z', h2, h3⟩ := h'
      exact ⟨fun p hp => h1 p (hz p hp), Z', fun p hp => h2 p (hz p hp), h3⟩) (h.2 i hi)⟩
theorem getD_true_false {listed : Array Bool} {i : Nat} (h : listed.getD i true = false) : listed.getD i false = false := by
  rcases Nat.lt_or_ge i listed.size with h' | h'
  · simp [h'] at h ⊢; exact h
  · simp [Array.getElem?_eq_none h'] at h
theorem wpAnyD_first {N i : Nat} {oi : Oper} {v : Value} {G : List Nat} {S : World → Prop} (hi : ops[i]? = some oi) (hsel : ∀ (j : Nat) (o : Oper) cs b, ops[j]? = some o → o.op ≠ .select cs b)
    (hQ : ∀ c a w, Q (.panic c) (a.put oi.dst v) w → Q (.panic c) a w) (hpres : ∀ w1 w2 : World, (∀ g ∈ G, w2.heap[g]? = w1.heap[g]?) → S w1 → S w2) :
    ∀ (fuel : Nat) (Z : List (Nat × Nat)) (listed : Array Bool) (a : Act) (w : World), (∀ g ∈ G, (i, g) ∈ Z) → Closed ops listed →
      (∀ j oj, ops[j]? = some oj → j ≠ i → listed.getD j true = false → (∀ e ∈ oj.after, Region.binds .any e = true → e.on ≠ i) → oi.apart ops oj = true) →
      i ∈ Region.ready .any ops listed → YieldsIf P ops S oi v a → S w →
      wpAnyD P ops Q N fuel Z (listed.setIfInBounds i true) (a.put oi.dst v) w → wpAnyD P ops Q N (fuel + 1) Z listed a w := by
  intro fuel
  induction fuel with
  | zero =>
    intro Z listed a w hZ hc _ hr hy hS H
    refine ⟨fun h => (by rw [h] at hr; cases hr), fun j hj => ?_⟩
    by_cases hji : j = i
    · subst hji; exact hy.wpOp hi hS ⟨fun _ _ _ => rfl, Z, fun _ h => h, H⟩
    · have := ready_mono hj hji
      rw [H.1] at this
      cases this
  | succ fuel ih =>
    intro Z listed a w hZ hc hfree hr hy hS H
    refine ⟨fun h => (by rw [h] at hr; cases hr), fun j hj => ?_⟩
    by_cases hji : j = i
    · subst hji; exact hy.wpOp hi hS ⟨fun _ _ _ => rfl, Z, fun _ h => h, H⟩
    · have h1 := H.2 j (ready_mono hj hji)
      obtain ⟨hjun, oj, hoj, hall⟩ := mem_ready.1 hj
      have hiun := (mem_ready.1 hr).1
      have hdep : depB ops N j i = false := dep_ready hc hj (getD_true_false hiun)
      have hnot : ∀ e ∈ oj.after, Region.binds .any e = true → e.on ≠ i := fun e he hb heq => by
        have h1 := hall e he hb
        rw [heq, getD_true_false hiun] at h1
        cases h1
      have h2 := wpOp_putIf hoj (hfree j oj hoj hji hjun hnot) (fun cs b => hsel i oi cs b hi) (fun cs b => hsel j oj cs b hoj) hQ hy h1
      have hfree' : ∀ k ok, ops[k]? = some ok → k ≠ i → (listed.setIfInBounds j true).getD k true = false →
          (∀ e ∈ ok.after, Region.binds .any e = true → e.on ≠ i) → oi.apart ops ok = true := fun k ok hk hki hun hno => by
        refine hfree k ok hk hki ?_ hno
        by_cases hjk : j = k
        · subst hjk; exact hjun
        · rw [getD_set_ne true hjk] at hun; exact hun
      refine wpOp_mono (fun a' w' h3 => ?_) h2
      obtain ⟨hy', hk1, Z', hZ', h4⟩ := h3
      refine ⟨hk1, Z', hZ', ih Z' (listed.setIfInBounds j true) a' w' (fun g hg => hZ' _ (hZ g hg)) (hc.set hj) hfree' (ready_mono hr (Ne.symm hji)) hy' (hpres w w' (fun g hg => hk1 _ (hZ g hg) hdep) hS) ?_⟩
      rw [Array.setIfInBounds_comm _ _ hji]
      exact h4
theorem wpAnyD_done {N : Nat} {Z : List (Nat × Nat)} {listed : Array Bool} {a : Act} {w : World} (hr : Region.ready .any ops listed = []) (h : Q .normal a w) : ∀ f, wpAnyD P ops Q N f Z listed a w
  | 0 => ⟨hr, h⟩
  | _ + 1 => ⟨fun _ => h, by rw [hr]; simp⟩
end
end Go.AE
set_option linter.unusedVariables false
set_option linter.unusedSimpArgs false
namespace Go.AE
open Go Go.RowKit
variable {ρ : Type}
def isConstO : Operand → Bool
  | .const _ => true
  | _ => false
def mkr (P : Program) (o : Oper) : Option ((Nat → AV) × Cont) := match o.guard with
  | some _ => none
  | none => match o.op with
    | .alloc t => match zeroC P t with
      | some cs => some (fun n => .ptr n 0 none (wid cs) (wid cs), .segs cs)
      | none => none
    | .buildSlice t len parts => if parts.toList.all (fun z => isConstO z.2) = true then
        match abuildSlice P [] t len (parts.toList.map fun z => (z.1, St.get ⟨[], []⟩ z.2)) with
        | some (.sl _ _ l s _, [some ⟨.row k r, _, _⟩]) => some (fun n => .sl n 0 l s .own, .row k r)
        | _ => none
      else none
    | .makeSlice t (.const (.int .i64 a)) (.const (.int .i64 b)) => match amake P [] t (.int .i64 (some a) a) (.int .i64 (some b) b) with
      | some (true, .sl _ _ l s _, [some ⟨.row k r, _, _⟩]) => some (fun n => .sl n 0 l s .own, .row k r)
      | _ => none
    | _ => none
structure Makes (P : Program) (o : Oper) (f : Nat → AV) (c : Cont) (val : Nat → Value) (cs : Array Value) (el : TypeId) (k : Nat) : Prop where
  guard : o.guard = none
  run : ∀ (a : Act) (w : World), (execOp a.eval o).run P w = .ok (.value (val w.heap.size)) (w.alloc (.cells cs el))
  le : k ≤ cs.size
  cont : ∀ M, RelO M c (cs.toList.take k)
  rel : ∀ (M : List Place) (n g : Nat), M[n]? = some ⟨false, g, 0, k, cs.size, noFz⟩ → RelV M (f n) (val g)
theorem mkr_sound {P : Program} {o : Oper} {f : Nat → AV} {c : Cont} (h : mkr P o = some (f, c)) : ∃ val cs el k, Makes P o f c val cs el k := by
  unfold mkr at h
  split at h
  · cases h
  · rename_i hg
    split at h
    · rename_i t hop
      split at h
      · rename_i cz hz
        cases h
        obtain ⟨_, z, _, _, hrun, hrel⟩ := zeroC_rel hz
        have hl := RelC_length (hrel [])
        simp at hl
        refine ⟨fun g => .pointer (some ⟨g, 0, none⟩), z.cells, t, wid cz, hg, fun a w => ?_, by omega, fun M => ?_, fun M n g hM => ?_⟩
        · simp [execOp, hop, Instr.alloc, hrun w, newVar, newRow, newObj, Sem.run]
        · rw [List.take_of_length_le (by simp; omega)]
          exact hrel M
        · simp only [RelV, RelX]
          exact ⟨_, hM, rfl, by simp, by simp, by simp⟩
      · cases h
    · rename_i t len parts hop
      split at h
      · rename_i hc
        split at h
        · rename_i b0 off l s cap k r ow pn hb
          cases h
          have hget : ∀ x : Operand, isConstO x = true → ∀ (a : Act) M, RelV M (St.get ⟨[], []⟩ x) (a.eval x) := by
            intro x hx a M
            cases x with
            | const v => exact ofConst_rel M v
            | _ => cases hx
          have hall := List.all_eq_true.1 hc
          have key : ∀ a : Act, ∃ (cells : Array Value) (e : TypeId), l = len ∧ RelO [] (.row k r) cells.toList ∧ cells.size = len * s ∧ IntKind.i64.has (len : Int) ∧
              ∀ w, (execOp a.eval o).run P w = .ok (.value (.slice (some ⟨w.heap.size, 0, none⟩) len len)) (w.alloc (.cells cells e)) := by
            intro a
            have hg2 : ∀ x : Operand, RelV [] (if isConstO x = true then St.get ⟨[], []⟩ x else .undef) (a.eval x) := by
              intro x
              split
              · rename_i hx; exact hget x hx a []
              · exact relV_undef _ _
            have he : (parts.toList.map fun z => (z.1, St.get ⟨[], []⟩ z.2)) = parts.toList.map fun z => (z.1, if isConstO z.2 = true then St.get ⟨[], []⟩ z.2 else .undef) := by
              refine List.map_congr_left fun z hz => ?_
              rw [if_pos (hall z hz)]
            rw [he] at hb
            obtain ⟨c', cells, e, s', q1, q2, q3, q4, q5, q6⟩ := abuildSlice_run (M := []) hg2 hop hb
            simp only [List.length_nil, AV.sl.injEq] at q1
            obtain ⟨_, _, rfl, rfl, _⟩ := q1
            simp only [List.nil_append, List.cons.injEq, Option.some.injEq, AObj.mk.injEq, and_true] at q2
            obtain ⟨rfl, _⟩ := q2
            exact ⟨cells, e, rfl, q3, q4, q5, q6⟩
          obtain ⟨cells, e, rfl, q3, q4, q5, q6⟩ := key ⟨#[], []⟩
          refine ⟨fun g => .slice (some ⟨g, 0, none⟩) l l, cells, e, l * s, hg, fun a w => ?_, by omega, fun M => ?_, fun M n g hM => ?_⟩
          · have hex : execOp a.eval o = execOp (⟨#[], []⟩ : Act).eval o := by
              have hp : (parts.map fun (x : Nat × Operand) => (x.1, a.eval x.2)) = parts.map fun (x : Nat × Operand) => (x.1, (⟨#[], []⟩ : Act).eval x.2) := by
                refine Array.map_congr_left fun x hx => ?_
                have := hall x (by simpa using hx)
                cases hx2 : x.2 with
                | const v => rfl
                | _ => rw [hx2] at this; cases this
              simp only [execOp, hop]
              rw [hp]
            rw [hex]
            exact q6 w
          · rw [List.take_of_length_le (by simp; omega)]
            exact q3
          · simp only [RelV, RelX]
            exact ⟨_, _, _, hM, rfl, by simp, Nat.le_refl _, fun h => (by cases h), fun _ => ⟨by simp, fun _ => by simp⟩, fun h => (by cases h), fun _ => by simp [q4], fun h => (by cases h), q5⟩
        · cases h
      · cases h
    · rename_i t na nb hop
      split at h
      · rename_i b0 off l s cap k r ow pn hb
        cases h
        unfold amake at hb
        split at hb
        · rename_i e l1 n1 l2 n2 hu h1 h2
          simp only [AV.int.injEq, true_and] at h1 h2
          obtain ⟨rfl, rfl⟩ := h1
          obtain ⟨rfl, rfl⟩ := h2
          split at hb
          · rename_i k' m i hzi hi
            split at hb
            · rename_i hby
              simp only [Option.some.injEq, Prod.mk.injEq, Bool.and_eq_true, decide_eq_true_eq, AV.sl.injEq, List.length_nil, List.nil_append, List.cons.injEq, AObj.mk.injEq, Cont.row.injEq, and_true] at hb
              obtain ⟨⟨⟨p1, p2⟩, p3⟩, ⟨_, _, rfl, rfl, _⟩, ⟨rfl, rfl⟩, _⟩ := hb
              subst p3
              have hrun := fun (a : Act) => makeSlice_run hu hzi hi hby p1 p2 (ρ := a.eval) hop rfl rfl
              obtain ⟨hk0, cells, hcl, _⟩ := hrun ⟨#[], []⟩
              have hsz : cells.size = na.toNat * m := by have := congrArg List.length hcl; simpa using this
              refine ⟨fun g => .slice (some ⟨g, 0, none⟩) na.toNat na.toNat, cells, e, na.toNat * m, hg, fun a w => ?_, by omega, fun M => ?_, fun M n g hM => ?_⟩
              · obtain ⟨_, cells', hcl', hr⟩ := hrun a
                have : cells' = cells := by apply Array.toList_inj.1; rw [hcl, hcl']
                subst this
                exact hr w
              · rw [List.take_of_length_le (by simp; omega), hcl]
                rw [mul1_eq]
                exact ⟨by simp [litN], fun y hy => by rw [(List.mem_replicate.1 hy).2]; exact hk0⟩
              · simp only [RelV, RelX, litN]
                exact ⟨_, _, _, hM, rfl, by simp, Nat.le_refl _, fun h => (by cases h), fun _ => ⟨by simp, fun _ => by simp⟩, fun h => (by cases h), fun _ => by simp [hsz], fun h => (by cases h), by rw [has_iff]; simp only [loB, hiB]; omega⟩
            · cases hb
          · cases hb
        · cases hb
      · cases h
    · cases h
def mkrs (P : Program) (ops : Array Oper) : List (Nat × Tmp) := (List.range ops.size).filterMap fun i => match ops[i]? with
  | some o => match o.dst with
    | some d => if (mkr P o).isSome = true then some (i, d) else none
    | none => none
  | none => none
def mkrsOk (ops : Array Oper) (ms : List (Nat × Tmp)) : Bool := ms.all fun m => (List.range ops.size).all fun j => j == m.1 || match ops[j]? with
  | some o => !(o.dst == some m.2)
  | none => true
def clearM (listed : Array Bool) : List (Nat × Tmp) → St → St
  | [], st => st
  | (i, d) :: ms, st => if listed.getD i true = true then clearM listed ms st else clearM listed ms ⟨st.tmps.set d .undef, st.heap⟩
theorem clearM_heap (listed : Array Bool) : ∀ (ms : List (Nat × Tmp)) (st : St), (clearM listed ms st).heap = st.heap
  | [], _ => rfl
  | (i, d) :: ms, st => by
    unfold clearM
    split
    · exact clearM_heap listed ms st
    · rw [clearM_heap listed ms]
theorem clearM_len (listed : Array Bool) : ∀ (ms : List (Nat × Tmp)) (st : St), (clearM listed ms st).tmps.length = st.tmps.length
  | [], _ => rfl
  | (i, d) :: ms, st => by
    unfold clearM
    split
    · exact clearM_len listed ms st
    · rw [clearM_len listed ms]; simp
theorem clearM_get (listed : Array Bool) : ∀ (ms : List (Nat × Tmp)) (st : St) (t : Nat), (clearM listed ms st).tmps.getD t .undef = st.tmps.getD t .undef ∨ (clearM listed ms st).tmps.getD t .undef = .undef
  | [], _, _ => .inl rfl
  | (i, d) :: ms, st, t => by
    unfold clearM
    split
    · exact clearM_get listed ms st t
    · rcases clearM_get listed ms ⟨st.tmps.set d .undef, st.heap⟩ t with h | h
      · rw [h]
        by_cases hd : d = t
        · subst hd
          right
          by_cases hl : d < st.tmps.length
          · simp [List.getD_eq_getElem?_getD, hl]
          · simp only [List.getD_eq_getElem?_getD]
            rw [List.getElem?_eq_none (by simpa using hl)]
            rfl
        · left
          simp [List.getD_eq_getElem?_getD, List.getElem?_set_ne hd]
      · exact .inr h
theorem clearM_undef (listed : Array Bool) : ∀ (ms : List (Nat × Tmp)) (st : St) {i : Nat} {d : Tmp}, (i, d) ∈ ms → listed.getD i true = false → (clearM listed ms st).tmps.getD d .undef = .undef
  | (i', d') :: ms, st, i, d, hm, hl => by
    rcases List.mem_cons.1 hm with h | h
    · cases h
      unfold clearM
      rw [if_neg (by rw [hl]; decide)]
      rcases clearM_get listed ms ⟨st.tmps.set d' .undef, st.heap⟩ d' with h | h
      · rw [h]
        by_cases hl : d' < st.tmps.length
        · simp [List.getD_eq_getElem?_getD, hl]
        · simp only [List.getD_eq_getElem?_getD]
          rw [List.getElem?_eq_none (by simpa using hl)]
          rfl
      · exact h
    · unfold clearM
      split <;> exact clearM_undef listed ms _ h hl
theorem RelT.clear {M : List Place} {st : St} {a : Array Value} (h : RelT M st.tmps a) (listed : Array Bool) (ms : List (Nat × Tmp)) : RelT M (clearM listed ms st).tmps a := by
  refine ⟨by rw [clearM_len, h.1], fun t => ?_⟩
  rcases clearM_get listed ms st t with e | e
  · rw [e]; exact h.2 t
  · rw [e]; exact relV_undef _ _
theorem RelT.putAny {M : List Place} {ts : List AV} {a : Array Value} (h : RelT M ts a) {d : Tmp} (hd : ts.getD d .undef = .undef) (v : Value) : RelT M ts (a.setIfInBounds d v) := by
  refine ⟨by simp [h.1], fun t => ?_⟩
  by_cases e : d = t
  · subst e; rw [hd]; exact relV_undef _ _
  · have := h.2 t
    rwa [show (a.setIfInBounds d v).getD t undef = a.getD t undef by simp [Array.getElem?_setIfInBounds_ne e]]
def Base.less (B : Base) (E : List (Nat × Nat)) : Base := ⟨fun k => B.w k ∧ ∀ p ∈ E, k ≠ p.2, fun k => B.vis k ∧ ∀ p ∈ E, k ≠ p.2, B.pin, B.f, B.ds⟩
def lst (E : List (Nat × Nat)) (listed : Array Bool) : Array Bool := E.foldl (fun l p => l.setIfInBounds p.1 true) listed
theorem lst_set (E : List (Nat × Nat)) (listed : Array Bool) (i : Nat) : lst E (listed.setIfInBounds i true) = (lst E listed).setIfInBounds i true := by
  induction E generalizing listed with
  | nil => rfl
  | cons p E ih =>
    show lst E ((listed.setIfInBounds i true).setIfInBounds p.1 true) = (lst E (listed.setIfInBounds p.1 true)).setIfInBounds i true
    by_cases h : i = p.1
    · subst h
      rw [← ih]
    · rw [Array.setIfInBounds_comm _ _ h, ih]
theorem lst_snoc (E : List (Nat × Nat)) (p : Nat × Nat) (listed : Array Bool) : lst (E ++ [p]) listed = (lst E listed).setIfInBounds p.1 true := by
  simp [lst, List.foldl_append]
theorem set_twice (l : Array Bool) (i : Nat) : (l.setIfInBounds i true).setIfInBounds i true = l.setIfInBounds i true := by
  apply Array.ext
  · simp
  · intro j h1 h2
    by_cases hj : i = j
    · subst hj; simp
    · simp [Array.getElem_setIfInBounds_ne (h := hj)]
theorem lst_mem_set {E : List (Nat × Nat)} {p : Nat × Nat} (hp : p ∈ E) (listed : Array Bool) : (lst E listed).setIfInBounds p.1 true = lst E listed := by
  induction E generalizing listed with
  | nil => cases hp
  | cons q E ih =>
    show (lst E (listed.setIfInBounds q.1 true)).setIfInBounds p.1 true = lst E (listed.setIfInBounds q.1 true)
    rcases List.mem_cons.1 hp with rfl | hp
    · rw [← lst_set, set_twice]
    · exact ih hp _
theorem lst_erase {E : List (Nat × Nat)} {p : Nat × Nat} (hp : p ∈ E) (listed : Array Bool) : lst (E.erase p) (listed.setIfInBounds p.1 true) = lst E listed := by
  induction E generalizing listed with
  | nil => cases hp
  | cons q E ih =>
    by_cases h : q = p
    · subst h
      rw [List.erase_cons_head]
      rfl
    · have hp' : p ∈ E := by
        rcases List.mem_cons.1 hp with e | e
        · exact absurd e.symm h
        · exact e
      rw [List.erase_cons_tail (by simpa using h)]
      show lst (E.erase p) ((listed.setIfInBounds p.1 true).setIfInBounds q.1 true) = lst E (listed.setIfInBounds q.1 true)
      by_cases e : p.1 = q.1
      · have := ih hp' (listed.setIfInBounds q.1 true)
        rw [e, set_twice] at this
        rw [e, set_twice]
        exact this
      · rw [Array.setIfInBounds_comm _ _ e, ih hp']
theorem lst_getD_true {E : List (Nat × Nat)} {listed : Array Bool} {j : Nat} (h : listed.getD j false = true) : (lst E listed).getD j false = true := by
  induction E generalizing listed with
  | nil => exact h
  | cons p E ih => exact ih (getD_set_true h)
theorem lst_getD_ne {E : List (Nat × Nat)} {listed : Array Bool} {j : Nat} (h : ∀ p ∈ E, p.1 ≠ j) (d : Bool) : (lst E listed).getD j d = listed.getD j d := by
  induction E generalizing listed with
  | nil => rfl
  | cons p E ih =>
    show (lst E (listed.setIfInBounds p.1 true)).getD j d = _
    rw [ih fun q hq => h q (List.mem_cons_of_mem _ hq), getD_set_ne d (h p (List.mem_cons_self ..))]
theorem lst_size (E : List (Nat × Nat)) (listed : Array Bool) : (lst E listed).size = listed.size := by
  induction E generalizing listed with
  | nil => rfl
  | cons p E ih =>
    show (lst E (listed.setIfInBounds p.1 true)).size = _
    rw [ih]; simp
def cntF (l : Array Bool) : Nat := (l.toList.filter fun b => !b).length
theorem cntF_set {l : Array Bool} {i : Nat} (h : l.getD i true = false) : cntF (l.setIfInBounds i true) + 1 = cntF l := by
  have hi : i < l.size := by
    rcases Nat.lt_or_ge i l.size with h' | h'
    · exact h'
    · simp [Array.getElem?_eq_none h'] at h
  have hv : l[i] = false := by simpa [hi] using h
  unfold cntF
  have key : ∀ (xs : List Bool) (i : Nat), xs[i]? = some false → ((xs.set i true).filter fun b => !b).length + 1 = (xs.filter fun b => !b).length := by
    intro xs
    induction xs with
    | nil => intro i h; cases h
    | cons x xs ih =>
      intro i h
      cases i with
      | zero =>
        simp at h
        subst h
        simp
      | succ i =>
        have := ih i (by simpa using h)
        cases x <;> simp at this ⊢ <;> omega
  rw [Array.toList_setIfInBounds]
  exact key _ _ (by simp [hi, hv])
theorem ready_lst {ops : Array Oper} {E : List (Nat × Nat)} {listed : Array Bool} {j : Nat} (hj : j ∈ Region.ready .any ops listed) (hne : ∀ p ∈ E, p.1 ≠ j) : j ∈ Region.ready .any ops (lst E listed) := by
  rw [mem_ready] at *
  obtain ⟨h0, o, ho, hall⟩ := hj
  exact ⟨by rw [lst_getD_ne hne]; exact h0, o, ho, fun e he hb => lst_getD_true (hall e he hb)⟩
theorem closed_lst {ops : Array Oper} {E : List (Nat × Nat)} {listed : Array Bool} (hc : Closed ops listed) (hE : ∀ p ∈ E, p.1 ∈ Region.ready .any ops listed) : Closed ops (lst E listed) := by
  intro j o ho hj e he hb
  by_cases hm : ∃ p ∈ E, p.1 = j
  · obtain ⟨p, hp, rfl⟩ := hm
    obtain ⟨_, o', ho', hall⟩ := mem_ready.1 (hE p hp)
    rw [ho] at ho'; cases ho'
    exact lst_getD_true (hall e he hb)
  · have hne : ∀ p ∈ E, p.1 ≠ j := fun p hp h => hm ⟨p, hp, h⟩
    rw [lst_getD_ne hne] at hj
    exact lst_getD_true (hc j o ho hj e he hb)
theorem ready_more {ops : Array Oper} {E : List (Nat × Nat)} {listed : Array Bool} {l : List Nat} (hE : ∀ p ∈ E, p.1 ∈ l) {k : Nat} (hk : k ∈ Region.ready .any ops (lst E listed)) (hkl : k ∉ l) : k ∈ Region.ready .any ops (l.foldl (fun a i => a.setIfInBounds i true) listed) := by
  have up : ∀ (l : List Nat) (a : Array Bool) (j : Nat), a.getD j false = true → (l.foldl (fun a i => a.setIfInBounds i true) a).getD j false = true := by
    intro l
    induction l with
    | nil => intro a j h; exact h
    | cons i l ih => intro a j h; exact ih _ _ (getD_set_true h)
  have keep : ∀ (l : List Nat) (a : Array Bool) (j : Nat), j ∉ l → (l.foldl (fun a i => a.setIfInBounds i true) a).getD j true = a.getD j true := by
    intro l
    induction l with
    | nil => intro a j h; rfl
    | cons i l ih =>
      intro a j h
      simp only [List.mem_cons, not_or] at h
      rw [List.foldl_cons, ih _ _ h.2, getD_set_ne true (fun e => h.1 e.symm)]
  have hit : ∀ (l : List Nat) (a : Array Bool) (j : Nat), j ∈ l → j < a.size → (l.foldl (fun a i => a.setIfInBounds i true) a).getD j false = true := by
    intro l
    induction l with
    | nil => intro a j h; cases h
    | cons i l ih =>
      intro a j h hj
      rcases List.mem_cons.1 h with rfl | h
      · exact up l _ _ (by simp [hj])
      · exact ih _ _ h (by simpa using hj)
  rw [mem_ready] at *
  obtain ⟨h0, o, ho, hall⟩ := hk
  have hne : ∀ p ∈ E, p.1 ≠ k := fun p hp e => hkl (e ▸ hE p hp)
  rw [lst_getD_ne hne] at h0
  refine ⟨by rw [keep _ _ _ hkl]; exact h0, o, ho, fun e he hb => ?_⟩
  have h1 := hall e he hb
  by_cases hm : ∃ p ∈ E, p.1 = e.on
  · obtain ⟨p, hp, hpe⟩ := hm
    refine hit l listed _ (hpe ▸ hE p hp) ?_
    rcases Nat.lt_or_ge e.on listed.size with h' | h'
    · exact h'
    · rw [show (lst E listed).getD e.on false = false by simp [Array.getElem?_eq_none (show (lst E listed).size ≤ e.on by rw [lst_size]; exact h')]] at h1
      cases h1
  · rw [lst_getD_ne (fun p hp h => hm ⟨p, hp, h⟩)] at h1
    exact up _ _ _ h1
end Go.AE
set_option linter.unusedVariables false
set_option linter.unusedSimpArgs false
namespace Go.AE
open Go Go.RowKit
section
variable {P : Program} {ops : Array Oper} {md : Region.Mode} {C : World → Prop}
def wpAnyLQ (P : Program) (md : Region.Mode) (ops : Array Oper) (C : World → Prop) (n : Nat) (L : Array Bool → Act → Prop) : Nat → Array Bool → Act → Prop
  | 0, listed, a => L listed a
  | f + 1, listed, a =>
    Region.ready md ops listed ≠ [] ∧ ∀ i ∈ Region.ready md ops listed, i < n ∧ qOp P ops C i (wpAnyLQ P md ops C n L f (listed.setIfInBounds i true)) a
theorem wpAny_of_headQ {n g : Nat} {L : Array Bool → Act → Prop} {Q' : Exit → Act → World → Prop} (hL : ∀ listed a w, C w → L listed a → wpAny P md ops Q' g listed a w) :
    ∀ (f : Nat) (listed : Array Bool) (a : Act) (w : World), C w → wpAnyLQ P md ops C n L f listed a → wpAny P md ops Q' (f + g) listed a w
  | 0, listed, a, w, hw, h => by rw [Nat.zero_add]; exact hL _ _ _ hw h
  | f + 1, listed, a, w, hw, h => by
    rw [show f + 1 + g = (f + g) + 1 by omega]
    exact ⟨fun h0 => absurd h0 h.1, fun i hi => wpOp_of_qOp hw (fun a' w' hw' h' => wpAny_of_headQ hL f _ a' w' hw' h') (h.2 i hi).2⟩
theorem wpAnyLQ_first {n i : Nat} {oi : Oper} {v : Value} {L : Array Bool → Act → Prop} (hi : ops[i]? = some oi) (hsel : ∀ (j : Nat) (o : Oper) cs b, ops[j]? = some o → o.op ≠ .select cs b)
    (hs : Region.sinkB md ops n = true) (hc : Region.chainB md ops n = true) (hn : n < ops.size) (hin : i < n)
    (hdone : ∀ listed a, L listed a → ∀ j ∈ Region.ready md ops listed, n ≤ j) :
    ∀ (f : Nat) (listed : Array Bool) (a : Act), HeadInv md ops n listed →
      (∀ j oj, ops[j]? = some oj → j ≠ i → listed.getD j true = false → (∀ e ∈ oj.after, Region.binds md e = true → e.on ≠ i) → oi.apart ops oj = true) →
      i ∈ Region.ready md ops listed → YieldsIn P ops C oi v a →
      wpAnyLQ P md ops C n L f (listed.setIfInBounds i true) (a.put oi.dst v) → wpAnyLQ P md ops C n L (f + 1) listed a := by
  intro f
  induction f with
  | zero =>
    intro listed a inv _ hr hy H
    have hun := (mem_ready.1 hr).1
    refine ⟨fun h => (by rw [h] at hr; cases hr), fun j hj => ?_⟩
    have hjn : j < n := by
      rcases Nat.lt_or_ge j n with h | h
      · exact h
      · exact absurd hj (tail_waits hs hc hn inv _ i rfl hin hun j h)
    refine ⟨hjn, ?_⟩
    by_cases hji : j = i
    · subst hji; exact hy.qOp hi H
    · have := hdone _ _ H j (ready_mono hj hji)
      omega
  | succ f ih =>
    intro listed a inv hfree hr hy H
    have hun := (mem_ready.1 hr).1
    refine ⟨fun h => (by rw [h] at hr; cases hr), fun j hj => ?_⟩
    have hjn : j < n := by
      rcases Nat.lt_or_ge j n with h | h
      · exact h
      · exact absurd hj (tail_waits hs hc hn inv _ i rfl hin hun j h)
    refine ⟨hjn, ?_⟩
    by_cases hji : j = i
    · subst hji; exact hy.qOp hi H
    · have h1 := (H.2 j (ready_mono hj hji)).2
      obtain ⟨hjun, oj, hoj, hall⟩ := mem_ready.1 hj
      have hnot : ∀ e ∈ oj.after, Region.binds md e = true → e.on ≠ i := fun e he hb heq => by
        have h1 := hall e he hb
        rw [heq, getD_both hun] at h1
        cases h1
      have h2 := qOp_put hoj (hfree j oj hoj hji hjun hnot) (fun cs b => hsel i oi cs b hi) (fun cs b => hsel j oj cs b hoj) hy h1
      have hfree' : ∀ k ok, ops[k]? = some ok → k ≠ i → (listed.setIfInBounds j true).getD k true = false →
          (∀ e ∈ ok.after, Region.binds md e = true → e.on ≠ i) → oi.apart ops ok = true := fun k ok hk hki hun hno => by
        refine hfree k ok hk hki ?_ hno
        by_cases hjk : j = k
        · subst hjk; exact hjun
        · rw [getD_set_ne true hjk] at hun; exact hun
      refine qOp_mono (fun a' h3 => ih (listed.setIfInBounds j true) a' (inv.set hj hjn) hfree' (ready_mono hr (Ne.symm hji)) h3.1 ?_) h2
      rw [Array.setIfInBounds_comm _ _ hji]
      exact h3.2
theorem wpAnyLQ_lex {n g : Nat} {Lq : Act → Prop} (hsel : Region.noSelect ops = true) (hs : Region.sinkB md ops n = true) (hc : Region.chainB md ops n = true) (hn : n < ops.size) :
    ∀ (l : List Oper) (k : Nat) (listed : Array Bool) (a : Act), (∀ j, j < l.length → l[j]? = ops[k + j]?) → k + l.length = n → HeadInv md ops n listed →
    Region.lexHead md ops g l.length k listed = true → wpQuiet P ops C Lq l a →
    wpAnyLQ P md ops C n (fun listed' a' => Region.seqB md ops g n listed' = true ∧ Lq a') l.length listed a
  | [], k, listed, a, _, hk, _, hB, h => by
    have : k = n := by simpa using hk
    subst this
    exact ⟨by simpa [Region.lexHead] using hB, h⟩
  | o :: l, k, listed, a, hl, hk, inv, hB, h => by
    have h0 : ops[k]? = some o := by simpa using (hl 0 (by simp)).symm
    simp only [List.length_cons, Region.lexHead, Bool.and_eq_true] at hB
    obtain ⟨⟨hr, hf⟩, hB'⟩ := hB
    have hkn : k < n := by simp only [List.length_cons] at hk; omega
    have hr' : k ∈ Region.ready md ops listed := by simpa using hr
    have hst : qOp P ops C k (wpQuiet P ops C Lq l) a := by unfold qOp; simp only [h0]; exact h
    obtain ⟨v, hy, hK⟩ := yieldsIn_of_qOp h0 hst
    exact wpAnyLQ_first h0 (Region.noSelect_spec hsel) hs hc hn hkn (fun listed' a' hL => seqB_ready hL.1) l.length listed a inv (Region.free_spec h0 hf) hr' hy
      (wpAnyLQ_lex hsel hs hc hn l (k + 1) _ _ (fun j hj => by have := hl (j + 1) (by simp; omega); simpa [Nat.add_assoc, Nat.add_comm 1 j] using this) (by simp only [List.length_cons] at hk; omega) (inv.set hr' hkn) hB' hK)
theorem wp_region_quiet_tail {id : Nat} {Q : Exit → Act → World → Prop} {a : Act} {w : World} (n : Nat) (hm : P.follows .mixedOrders = true) (hB : Region.lexTailB .any ops n = true) (hC : C w.drew)
    (h : wpQuiet P ops C (fun a' => ∀ w', C w' → wpList P ops Q (ops.toList.drop n) a' w') (ops.toList.take n) a) : (Code.region id ops true).wp P Q a w := by
  simp only [Region.lexTailB, Bool.and_eq_true, decide_eq_true_eq] at hB
  obtain ⟨⟨⟨⟨hsel, hn⟩, hs⟩, hc⟩, hlex⟩ := hB
  have htl : (ops.toList.take n).length = n := by simp; omega
  have hdl : (ops.toList.drop n).length = ops.size - n := by simp
  have inv0 : HeadInv .any ops n (Array.replicate ops.size false) :=
    ⟨by simp, fun j oj _ hl => (by rw [getD_replicate_false] at hl; cases hl), fun t _ ht => getD_in (by simpa using ht) (getD_replicate_false _ _)⟩
  have H := wpAnyLQ_lex (md := .any) (g := ops.size - n) hsel hs hc hn (ops.toList.take n) 0 _ a (fun j hj => by
    have hj' : j < n := by rw [htl] at hj; exact hj
    simp [hj']) (by simpa using htl) inv0 (by rw [htl]; exact hlex) h
  refine wp_region_any hm ?_
  have := wpAny_of_headQ (Q' := Q) (g := ops.size - n) (fun listed a' w' hw' hL => by
    have := wpAny_of_seq (md := .any) (Q' := Q) (ops.toList.drop n) n listed a' w' (fun j => by simp [List.getElem?_drop]) (by rw [hdl]; exact hL.1) (hL.2 w' hw')
    rwa [hdl] at this) _ _ _ _ hC H
  rw [htl, show n + (ops.size - n) = ops.size by omega] at this
  exact this
end
theorem wp_loop_ind {P : Program} {c : Code} {Q : Exit → Act → World → Prop} {a : Act} {w : World} (I : Nat → Act → World → Prop) {n : Nat} (h0 : I n a w)
    (round : ∀ n a w, I n a w → c.wp P (Exit.then (fun a' w' => ∃ m, m < n ∧ I m a' w') Q) a w) : (Code.loop c).wp P Q a w := by
  intro b k cs
  have key : ∀ n a w, I n a w → ∃ e a' w', Q e a' w' ∧ Arrives P (lone (b.at a (.code c :: .inLoop c :: k)) cs w) b k cs e a' w' := by
    intro n
    induction n using Nat.strongRecOn with
    | _ n ih =>
      intro a w hI
      obtain ⟨e, a₁, w₁, hq, harr⟩ := round n a w hI b (.inLoop c :: k) cs
      cases e with
      | normal =>
        obtain ⟨m, hm, hI1⟩ := hq
        obtain ⟨e₂, a₂, w₂, hq₂, harr₂⟩ := ih m hm a₁ w₁ hI1
        exact ⟨e₂, a₂, w₂, hq₂, .of_steps (Steps.trans harr (.one step_inLoop)) harr₂⟩
      | exit id => exact ⟨_, a₁, w₁, hq, .pass (x := .inLoop c) rfl (fun _ _ => .inl (by simp)) harr⟩
      | goto l => exact ⟨_, a₁, w₁, hq, .pass (x := .inLoop c) rfl (fun _ _ => .inl (by simp)) harr⟩
      | ret => exact ⟨_, a₁, w₁, hq, .pass (x := .inLoop c) rfl (fun _ _ => .inl (by simp)) harr⟩
      | panic ch => exact ⟨_, a₁, w₁, hq, .pass (x := .inLoop c) rfl (fun _ _ => .inl (by simp)) harr⟩
      | outgrown => exact ⟨_, a₁, w₁, hq, .pass (x := .inLoop c) rfl (fun _ _ => .inl (by simp)) harr⟩
  obtain ⟨e, a', w', hq, harr⟩ := key n a w h0
  exact ⟨e, a', w', hq, .of_steps (.one step_loop) harr⟩
variable {ρ : Type}
def quietKind : Op → Bool
  | .alloc _ | .box _ _ | .buildSlice _ _ _ | .makeSlice _ _ _ | .store _ _ _ => false
  | .call c => match c.callee with
    | .builtin .append | .builtin .copy => false
    | _ => true
  | _ => true
def headLen : List Oper → Nat
  | [] => 0
  | o :: l => if quietKind o.op then headLen l + 1 else 0
def goodCall (ops : Array Oper) : List Oper → Nat → Option Nat
  | [], _ => none
  | o :: l, i => match o.op with
    | .call c => match c.callee with
      | .value _ => if Region.lexTailB .any ops i = true then some i else goodCall ops l (i + 1)
      | _ => goodCall ops l (i + 1)
    | _ => goodCall ops l (i + 1)
def hdLen (ops : Array Oper) : Nat :=
  match goodCall ops ops.toList 0 with
  | some j => if j < headLen ops.toList then j else headLen ops.toList
  | none => headLen ops.toList
def guardSt (ops : Array Oper) (st : St) (o : Oper) : Option Bool := match o.guard with
  | none => some true
  | some (j, want) => match ops[j]? with
    | some oj => match oj.dst with
      | some d => match st.tmps.getD d .undef with
        | .bool (some b) _ => some (b == want)
        | .tup [] => some false
        | _ => none
      | none => none
    | none => none
def guardU (ops : Array Oper) (st : St) (o : Oper) : Option (Nat × Bool) := match o.guard with
  | none => none
  | some (j, _) => match ops[j]? with
    | some oj => match oj.dst with
      | some d => match st.tmps.getD d .undef with
        | .bool none b => some (d, b)
        | _ => none
      | none => none
    | none => none
def pickU (ops : Array Oper) (st : St) : List Nat → Option (Nat × Bool)
  | [] => none
  | i :: l => match ops[i]? with
    | some o => match guardU ops st o with
      | some x => some x
      | none => pickU ops st l
    | none => pickU ops st l
theorem guardSt_spec {ops : Array Oper} {st : St} {o : Oper} {g : Bool} (h : guardSt ops st o = some g) {M : List Place} {a : Act} (ht : RelT M st.tmps a.tmps) : Region.wanted o (yielded ops a.tmps) = g := by
  unfold guardSt at h
  split at h
  · rename_i hg
    cases h
    simp [Region.wanted, hg]
  · rename_i j want hg
    split at h
    · rename_i oj hj
      split at h
      · rename_i d hd
        have hv := ht.2 d
        have hy : yielded ops a.tmps j = match a.tmps.getD d undef with | .bool b => some b | _ => none := by
          unfold yielded
          simp only [hj, hd, Option.bind_some]
          rw [Array.getD_eq_getD_getElem?]
          cases a.tmps[d]? with
          | none => rfl
          | some v => cases v <;> rfl
        split at h
        · rename_i b z hst
          cases h
          rw [hst] at hv
          obtain ⟨e, hl⟩ := relV_bool hv
          have := hl b rfl
          subst this
          rw [e] at hy
          simp [Region.wanted, hg, hy]
        · rename_i hst
          cases h
          rw [hst] at hv
          simp only [RelV, RelX, RelL_nil] at hv
          obtain ⟨vs, e, _⟩ := hv
          have e : a.tmps.getD d undef = .tuple vs := by simpa using e
          rw [e] at hy
          simp [Region.wanted, hg, hy]
        · cases h
      · cases h
    · cases h
theorem pickU_spec {ops : Array Oper} {st : St} {d : Nat} {b : Bool} : ∀ {l : List Nat}, pickU ops st l = some (d, b) → st.tmps.getD d .undef = .bool none b
  | [], h => by cases h
  | i :: l, h => by
    unfold pickU at h
    split at h
    · rename_i o ho
      split at h
      · rename_i x hx
        cases h
        unfold guardU at hx
        split at hx
        · cases hx
        · split at hx
          · split at hx
            · split at hx
              · rename_i hst
                cases hx
                exact hst
              · cases hx
            · cases hx
          · cases hx
      · exact pickU_spec h
    · exact pickU_spec h
def isLoad (o : Oper) : Bool := match o.op with
  | .load _ _ => true
  | _ => false
def pickP (P : Program) (ops : Array Oper) (listed : Array Bool) (st : St) : List Nat → Option (Nat × Oper × Bool × AV)
  | [] => none
  | i :: l => match ops[i]? with
    | some o => if Region.free .any ops listed i = true then match guardSt ops st o with
        | some true => if isLoad o = true then pickP P ops listed st l else if (ixOf st o.op).isSome = true then pickP P ops listed st l else match aq P st.heap st.get o.op with
          | some (req, x) => some (i, o, req, x)
          | none => pickP P ops listed st l
        | some false => some (i, o, true, .tup [])
        | none => pickP P ops listed st l
      else pickP P ops listed st l
    | none => pickP P ops listed st l
def loadBlk (st : St) : Op → Option Nat
  | .load _ p => match st.get p with
    | .ptr b _ _ _ _ => some b
    | .rptr b _ _ => some b
    | _ => none
  | _ => none
def pickL (P : Program) (ops : Array Oper) (listed : Array Bool) (st : St) : List Nat → Option (Nat × Oper × Bool × AV × Nat)
  | [] => none
  | i :: l => match ops[i]? with
    | some o => if (isLoad o && Region.free .any ops listed i) = true then match guardSt ops st o with
        | some true => match aq P st.heap st.get o.op with
          | some (req, x) => match loadBlk st o.op with
            | some b => some (i, o, req, x, b)
            | none => pickL P ops listed st l
          | none => pickL P ops listed st l
        | _ => pickL P ops listed st l
      else pickL P ops listed st l
    | none => pickL P ops listed st l
def pick (P : Program) (ops : Array Oper) (listed : Array Bool) (st : St) (l : List Nat) : Option (Nat × Oper × Bool × AV × Option Nat) :=
  match pickP P ops listed st l with
  | some (i, o, req, x) => some (i, o, req, x, none)
  | none => match l with
    | _ :: _ :: _ => match pickL P ops listed st l with
      | some (i, o, req, x, b) => some (i, o, req, x, some b)
      | none => none
    | _ => none
def zcons (i : Nat) (b : Option Nat) (Z : List (Nat × Nat)) : List (Nat × Nat) := match b with
  | some b => (i, b) :: Z
  | none => Z
def heldBy (ops : Array Oper) (i : Nat) (Z : List (Nat × Nat)) : List Nat := (Z.filter fun p => !depB ops ops.size i p.1).map (·.2)
def evStep (P : Program) (cal : Cal ρ) (ops : Array Oper) (i : Nat) (o : Oper) (Z : List (Nat × Nat)) (st : St) (K : St → Option ρ) : Option ρ :=
  match heldBy ops i Z with
  | [] => guarded ops o st (evExec P cal o) K
  | b :: bs => guarded ops o st (evHeld P cal o (b :: bs)) K
def isM (ms : List (Nat × Tmp)) (i : Nat) : Bool := ms.any fun p => p.1 == i
def setAll (l : List Nat) (listed : Array Bool) : Array Bool := l.foldl (fun a i => a.setIfInBounds i true) listed
def aloneOk (ops : Array Oper) (listed : Array Bool) (mk : List Nat) (j : Nat) : Bool := match mk with
  | [] => true
  | _ :: _ => Region.ready .any ops (setAll mk listed) == [j]
def evAny (P : Program) (cal : Cal ρ) (ops : Array Oper) (ms : List (Nat × Tmp)) : Nat → List (Nat × Nat) → Array Bool → St → (St → Option ρ) → Option ρ
  | 0, _, listed, st, K => match Region.ready .any ops listed with
    | [] => K (clearM listed ms st)
    | _ :: _ => none
  | n + 1, Z, listed, st, K => match Region.ready .any ops listed with
    | [] => K (clearM listed ms st)
    | i0 :: rs => match pick P ops listed (clearM listed ms st) (i0 :: rs) with
      | some (i, o, req, x, zb) => cond req (evAny P cal ops ms n (zcons i zb Z) (listed.setIfInBounds i true) ((clearM listed ms st).put o.dst x) K) none
      | none => match (match rs with | [] => none | _ :: _ => pickU ops (clearM listed ms st) (i0 :: rs)) with
          | some (d, b) => cond b
              (match pick P ops listed ((clearM listed ms st).put (some d) (.bool (some true) true)) (i0 :: rs) with
                | some (i, o, req, x, zb) => cond req (evAny P cal ops ms n (zcons i zb Z) (listed.setIfInBounds i true) (((clearM listed ms st).put (some d) (.bool (some true) true)).put o.dst x) K) none
                | none => none)
              (match pick P ops listed ((clearM listed ms st).put (some d) (.bool (some false) false)) (i0 :: rs) with
                | some (i, o, req, x, zb) => cond req (evAny P cal ops ms n (zcons i zb Z) (listed.setIfInBounds i true) (((clearM listed ms st).put (some d) (.bool (some false) false)).put o.dst x) K) none
                | none => none)
          | none => match (i0 :: rs).filter fun i => !isM ms i with
            | [j] => if aloneOk ops listed ((i0 :: rs).filter (isM ms)) j = true then match ops[j]? with
                | some o => evStep P cal ops j o Z (clearM listed ms st) fun st' => evAny P cal ops ms n Z (listed.setIfInBounds j true) st' K
                | none => none
              else none
            | [] => if aloneOk ops listed rs i0 = true then match ops[i0]? with
                | some o => match mkr P o with
                  | some (f, c) => evAny P cal ops ms n Z (listed.setIfInBounds i0 true) ⟨((clearM listed ms st).put o.dst (f st.heap.length)).tmps, st.heap ++ [some ⟨c, true, none⟩]⟩ K
                  | none => none
                | none => none
              else none
            | _ :: _ :: _ => none
theorem pickP_spec {P : Program} {ops : Array Oper} {listed : Array Bool} {st : St} {i : Nat} {o : Oper} {req : Bool} {x : AV} : ∀ {l : List Nat}, pickP P ops listed st l = some (i, o, req, x) →
    i ∈ l ∧ ops[i]? = some o ∧ Region.free .any ops listed i = true ∧ ((guardSt ops st o = some true ∧ isLoad o = false ∧ aq P st.heap st.get o.op = some (req, x)) ∨ (guardSt ops st o = some false ∧ req = true ∧ x = .tup []))
  | [], h => by cases h
  | j :: l, h => by
    unfold pickP at h
    have next : pickP P ops listed st l = some (i, o, req, x) → i ∈ j :: l ∧ ops[i]? = some o ∧ Region.free .any ops listed i = true ∧ ((guardSt ops st o = some true ∧ isLoad o = false ∧ aq P st.heap st.get o.op = some (req, x)) ∨ (guardSt ops st o = some false ∧ req = true ∧ x = .tup [])) := fun h =>
      let ⟨h1, h2⟩ := pickP_spec h
      ⟨List.mem_cons_of_mem _ h1, h2⟩
    split at h
    · rename_i o' ho
      split at h
      · rename_i hf
        split at h
        · rename_i hg
          split at h
          · exact next h
          · rename_i hl
            split at h
            · exact next h
            · split at h
              · rename_i req' x' hq
                cases h
                exact ⟨List.mem_cons_self .., ho, hf, .inl ⟨hg, by simpa using hl, hq⟩⟩
              · exact next h
        · rename_i hg
          cases h
          exact ⟨List.mem_cons_self .., ho, hf, .inr ⟨hg, rfl, rfl⟩⟩
        · exact next h
      · exact next h
    · exact next h
theorem pickL_spec {P : Program} {ops : Array Oper} {listed : Array Bool} {st : St} {i : Nat} {o : Oper} {req : Bool} {x : AV} {b : Nat} : ∀ {l : List Nat}, pickL P ops listed st l = some (i, o, req, x, b) →
    i ∈ l ∧ ops[i]? = some o ∧ isLoad o = true ∧ Region.free .any ops listed i = true ∧ guardSt ops st o = some true ∧ aq P st.heap st.get o.op = some (req, x) ∧ loadBlk st o.op = some b
  | [], h => by cases h
  | j :: l, h => by
    unfold pickL at h
    have next : pickL P ops listed st l = some (i, o, req, x, b) → i ∈ j :: l ∧ ops[i]? = some o ∧ isLoad o = true ∧ Region.free .any ops listed i = true ∧ guardSt ops st o = some true ∧ aq P st.heap st.get o.op = some (req, x) ∧ loadBlk st o.op = some b := fun h =>
      let ⟨h1, h2⟩ := pickL_spec h
      ⟨List.mem_cons_of_mem _ h1, h2⟩
    split at h
    · rename_i o' ho
      split at h
      · rename_i hp
        simp only [Bool.and_eq_true] at hp
        split at h
        · rename_i hg
          split at h
          · rename_i req' x' hq
            split at h
            · rename_i b' hb
              cases h
              exact ⟨List.mem_cons_self .., ho, hp.1, hp.2, hg, hq, hb⟩
            · exact next h
          · exact next h
        · exact next h
      · exact next h
    · exact next h
theorem load_held {P : Program} {M : List Place} {st : St} {B : Base} {w0 : World} {a : Act} {w : World} (hr : Rel M st B w0 a w) {ops : Array Oper} {o : Oper} {req : Bool} {x : AV} {b : Nat} (hl : isLoad o = true) (hgd : guardSt ops st o = some true)
    (hq : aq P st.heap st.get o.op = some (req, x)) (hb : loadBlk st o.op = some b) : ∃ pl v ob, M[b]? = some pl ∧ pl.nil = false ∧ RelV M x v ∧ w.heap[pl.blk]? = some ob ∧ YieldsIf P ops (fun w' => w'.heap[pl.blk]? = some ob) o v a := by
  have : ∃ t p, o.op = .load t p := by
    unfold isLoad at hl
    split at hl
    · rename_i t p he; exact ⟨t, p, he⟩
    · cases hl
  obtain ⟨t, p, hop⟩ := this
  have hg : RelV M (st.get p) (a.eval p) := get_rel hr.tmps p
  rw [hop] at hq hb
  simp only [aq, Option.map_eq_some_iff, Prod.mk.injEq] at hq
  obtain ⟨x', h1, _, rfl⟩ := hq
  obtain ⟨A, u, e, hu, hrun⟩ := aload_at hr.heap hg h1
  simp only [loadBlk] at hb
  have blk : ∃ pl, M[b]? = some pl ∧ pl.nil = false ∧ A.block = pl.blk := by
    split at hb
    · rename_i b' base dyn room span hst
      cases hb
      rw [hst] at hg
      simp only [RelV, RelX] at hg
      obtain ⟨pl, hp, hn, hv, _⟩ := hg
      rw [e] at hv
      simp at hv
      exact ⟨pl, hp, hn, by rw [hv]⟩
    · rename_i b' off room hst
      cases hb
      rw [hst] at hg
      simp only [RelV, RelX] at hg
      obtain ⟨pl, hp, hn, hv, _⟩ := hg
      rw [e] at hv
      simp at hv
      exact ⟨pl, hp, hn, by rw [hv]⟩
    · cases hb
  obtain ⟨pl, hp, hn, hA⟩ := blk
  have hob : ∃ ob, w.heap[pl.blk]? = some ob := by
    cases hw : w.heap[pl.blk]? with
    | some ob => exact ⟨ob, rfl⟩
    | none =>
      exfalso
      have hx : ∃ o', st.heap[b]? = some (some o') := by
        unfold aload at h1
        split at h1
        · rename_i b' base dyn room span hst
          simp only [hst] at hb
          cases hb
          cases hc : objC st.heap b with
          | none => simp [hc] at h1
          | some c =>
            obtain ⟨o', pl', ho', _⟩ := objC_ok hr.heap hc
            exact ⟨o', ho'⟩
        · rename_i b' off room hst
          simp only [hst] at hb
          cases hb
          cases hc : objC st.heap b with
          | none => simp [hc] at h1
          | some c =>
            obtain ⟨o', pl', ho', _⟩ := objC_ok hr.heap hc
            exact ⟨o', ho'⟩
        · rename_i hst
          simp only [hst] at hb
          cases hb
        · rename_i hst
          simp only [hst] at hb
          cases hb
        · cases h1
      obtain ⟨o', ho'⟩ := hx
      obtain ⟨pl', hp', hok⟩ := hr.heap.obj b o' ho'
      rw [hp] at hp'; cases hp'
      have := objOk_lt hok hn
      rw [Array.getElem?_eq_none_iff] at hw
      omega
  obtain ⟨ob, hob⟩ := hob
  refine ⟨pl, u, ob, hp, hn, hu, hob, .inl ⟨guardSt_spec hgd hr.tmps, fun w' hw' => ?_⟩⟩
  have hrun' := hrun w' (fun ob' h' => by rw [hA] at h' ⊢; rw [hw', ← h', hob])
  simp [execOp, hop, e, Instr.loadAt, Instr.sureAddr, hrun']
theorem pick_sound {P : Program} {M : List Place} {st : St} {B : Base} {w0 : World} {a : Act} {w : World} (hr : Rel M st B w0 a w) {ops : Array Oper} {listed : Array Bool} {l : List Nat} {i : Nat} {o : Oper} {x : AV} {zb : Option Nat} (h : pick P ops listed st l = some (i, o, true, x, zb)) :
    i ∈ l ∧ ops[i]? = some o ∧ Region.free .any ops listed i = true ∧ ∃ v, RelV M x v ∧
      ((zb = none ∧ YieldsIf P ops (fun _ => True) o v a) ∨ (∃ b pl ob, zb = some b ∧ M[b]? = some pl ∧ pl.nil = false ∧ w.heap[pl.blk]? = some ob ∧ YieldsIf P ops (fun w' => w'.heap[pl.blk]? = some ob) o v a)) := by
  unfold pick at h
  split at h
  · rename_i i' o' req' x' hp
    cases h
    obtain ⟨h1, h2, h3, h4⟩ := pickP_spec hp
    refine ⟨h1, h2, h3, ?_⟩
    rcases h4 with ⟨g1, g2, g3⟩ | ⟨g1, _, g3⟩
    · have hnl : ∀ t b, o.op ≠ .load t b := by
        intro t b e
        simp [isLoad, e] at g2
      obtain ⟨v, hv, hrun⟩ := aq_pure (fun x => get_rel hr.tmps x) hnl g3 rfl
      exact ⟨v, hv, .inl ⟨rfl, .inl ⟨guardSt_spec g1 hr.tmps, fun w _ => hrun w⟩⟩⟩
    · subst g3
      exact ⟨undef, relV_skip M, .inl ⟨rfl, .inr ⟨guardSt_spec g1 hr.tmps, rfl⟩⟩⟩
  · split at h
    · split at h
      · rename_i i' o' req' x' b hp
        cases h
        obtain ⟨h1, h2, h3, h4, h5, h6, h7⟩ := pickL_spec hp
        obtain ⟨pl, v, ob, g1, g2, g3, g4, g5⟩ := load_held hr h3 h5 h6 h7
        exact ⟨h1, h2, h4, v, g3, .inr ⟨b, pl, ob, rfl, g1, g2, g4, g5⟩⟩
      · cases h
    · cases h
theorem aloneOk_spec {ops : Array Oper} {listed : Array Bool} {mk : List Nat} {j : Nat} (h : aloneOk ops listed mk j = true) : mk = [] ∨ Region.ready .any ops (setAll mk listed) = [j] := by
  cases mk with
  | nil => exact .inl rfl
  | cons x xs => exact .inr (by simpa [aloneOk] using h)
theorem evStep_sound {P : Program} (hP : Callable P) {cal : Cal ρ} (hcal : ∀ f, CalAt P f (cal f)) {ops : Array Oper} {i : Nat} {o : Oper} (ho : ops[i]? = some o) {Z : List (Nat × Nat)} {st : St} {K : St → Option ρ} {r : ρ} {M : List Place} {B : Base} {a : Act} {w : World}
    (h : evStep P cal ops i o Z st K = some r) (hr : Rel M st B w a w) {Q : Exit → Act → World → Prop} {next : Act → World → Prop} (hn : ∀ M' st' a' w', Ext M M' → K st' = some r → Rel M' st' B w a' w' → (∃ v, a' = a.put o.dst v) →
      (∀ b ∈ heldBy ops i Z, ∀ pl, M[b]? = some pl → pl.nil = false → w'.heap[pl.blk]? = w.heap[pl.blk]?) → next a' w') : wpOp P ops Q i next a w := by
  unfold wpOp
  rw [ho]
  unfold evStep at h
  split at h
  · rename_i hz
    rcases guarded_sound h hr.tmps with ⟨hw, st', h', ht, hh⟩ | ⟨hw, st', h', ht, hh⟩
    · simp only [hw, if_true]
      have hr' : Rel M st' B w a w := ⟨ht, hr.defers, by rw [hh]; exact hr.heap, Beneath.refl _ _⟩
      exact .inl (evExec_act hP hcal h' hr' fun M' st2 a' w' hE hk hr2 hact => hn M' st2 a' w' hE hk hr2 hact (by rw [hz]; simp))
    · simp only [hw, Bool.false_eq_true, if_false]
      have hr' : Rel M st' B w a w := ⟨ht, hr.defers, by rw [hh]; exact hr.heap, hr.below⟩
      exact hn M _ _ _ (Ext.refl M) h' (hr'.put (relV_skip M) o.dst) ⟨_, rfl⟩ (by rw [hz]; simp)
  · rename_i b bs hz
    rcases guarded_sound h hr.tmps with ⟨hw, st', h', ht, hh⟩ | ⟨hw, st', h', ht, hh⟩
    · simp only [hw, if_true]
      have hr' : Rel M st' B w a w := ⟨ht, hr.defers, by rw [hh]; exact hr.heap, Beneath.refl _ _⟩
      exact .inl (evHeld_sound hP hcal h' hr' fun M' st2 a' w' hE hk hr2 hu hact => hn M' st2 a' w' hE hk hr2 hact (by rw [hz]; exact hu))
    · simp only [hw, Bool.false_eq_true, if_false]
      have hr' : Rel M st' B w a w := ⟨ht, hr.defers, by rw [hh]; exact hr.heap, hr.below⟩
      exact hn M _ _ _ (Ext.refl M) h' (hr'.put (relV_skip M) o.dst) ⟨_, rfl⟩ (fun _ _ _ _ _ => rfl)
def ZRel (M : List Place) (Z : List (Nat × Nat)) (Zc : List (Nat × Nat)) : Prop := ∀ p ∈ Zc, ∃ b pl, (p.1, b) ∈ Z ∧ M[b]? = some pl ∧ pl.nil = false ∧ pl.blk = p.2
theorem ZRel.mono {M M' : List Place} (h : Ext M M') {Z Zc : List (Nat × Nat)} (r : ZRel M Z Zc) : ZRel M' Z Zc := fun p hp => by
  obtain ⟨b, pl, h1, h2, h3⟩ := r p hp
  exact ⟨b, pl, h1, h _ _ h2, h3⟩
theorem mkr_aq {P : Program} {o : Oper} {x : (Nat → AV) × Cont} (h : mkr P o = some x) : o.guard = none ∧ isLoad o = false ∧ ∀ H g, aq P H g o.op = none := by
  unfold mkr at h
  split at h
  · cases h
  · rename_i hg
    split at h
    · rename_i t hop
      exact ⟨hg, by simp [isLoad, hop], fun H g => by rw [hop]; rfl⟩
    · rename_i t len parts hop
      exact ⟨hg, by simp [isLoad, hop], fun H g => by rw [hop]; rfl⟩
    · rename_i t na nb hop
      exact ⟨hg, by simp [isLoad, hop], fun H g => by rw [hop]; rfl⟩
    · cases h
def MsOk (P : Program) (ops : Array Oper) (ms : List (Nat × Tmp)) : Prop := ∀ m ∈ ms, ∃ o f c, ops[m.1]? = some o ∧ o.dst = some m.2 ∧ mkr P o = some (f, c)
theorem mkrs_ok (P : Program) (ops : Array Oper) : MsOk P ops (mkrs P ops) := by
  intro m hm
  obtain ⟨i, _, hi⟩ := List.mem_filterMap.1 hm
  split at hi
  · rename_i o ho
    split at hi
    · rename_i d hd
      split at hi
      · rename_i hs
        cases hi
        obtain ⟨⟨f, c⟩, hx⟩ := Option.isSome_iff_exists.1 hs
        exact ⟨o, f, c, ho, hd, hx⟩
      · cases hi
    · cases hi
  · cases hi
theorem isM_mem {ms : List (Nat × Tmp)} {i : Nat} (h : isM ms i = true) : ∃ d, (i, d) ∈ ms := by
  obtain ⟨p, hp, he⟩ := List.any_eq_true.1 h
  simp only [beq_iff_eq] at he
  subst he
  exact ⟨p.2, hp⟩
structure Ahead (P : Program) (ops : Array Oper) (ms : List (Nat × Tmp)) (B : Base) (listed : Array Bool) (E : List (Nat × Nat)) (a : Act) (w : World) : Prop where
  each : ∀ p ∈ E, p.1 ∈ Region.ready .any ops listed ∧ isM ms p.1 = true ∧ (B.w p.2 ∧ B.vis p.2 ∧ ¬ B.f p.2) ∧ ∃ o d f c val cs el k, ops[p.1]? = some o ∧ o.dst = some d ∧ (p.1, d) ∈ ms ∧ mkr P o = some (f, c) ∧ Makes P o f c val cs el k ∧
    w.heap[p.2]? = some (.cells cs el) ∧ a.put (some d) (val p.2) = a
  apart : ∀ p ∈ E, ∀ q ∈ E, (p.1 = q.1 ∨ p.2 = q.2) → p = q
  nodup : E.Nodup
theorem mkrsOk_spec {ops : Array Oper} {ms : List (Nat × Tmp)} (h : mkrsOk ops ms = true) {i : Nat} {d : Tmp} (hm : (i, d) ∈ ms) {j : Nat} {o : Oper} (hj : ops[j]? = some o) (hne : j ≠ i) : o.dst ≠ some d := by
  have h1 := List.all_eq_true.1 h (i, d) hm
  have h2 := List.all_eq_true.1 h1 j (List.mem_range.2 (Array.getElem?_eq_some_iff.1 hj).1)
  simp only [hj, Bool.or_eq_true, beq_iff_eq, hne, false_or, Bool.not_eq_true'] at h2
  intro e
  rw [e] at h2
  simp at h2
theorem Ahead.put {P : Program} {ops : Array Oper} {ms : List (Nat × Tmp)} (hmo : mkrsOk ops ms = true) {B : Base} {listed : Array Bool} {E : List (Nat × Nat)} {a : Act} {w : World} (h : Ahead P ops ms B listed E a w) {i : Nat} {o : Oper} (hi : ops[i]? = some o) (hr : i ∈ Region.ready .any ops listed) (hne : ∀ p ∈ E, p.1 ≠ i)
    {w' : World} (hw : ∀ p ∈ E, w'.heap[p.2]? = w.heap[p.2]?) (v : Value) : Ahead P ops ms B (listed.setIfInBounds i true) E (a.put o.dst v) w' := by
  refine ⟨fun p hp => ?_, h.apart, h.nodup⟩
  obtain ⟨h1, h2, h3, oo, d, f, c, val, cs, el, k, g1, g2, g3, g4, g5, g6, g7⟩ := h.each p hp
  refine ⟨ready_mono h1 (hne p hp), h2, h3, oo, d, f, c, val, cs, el, k, g1, g2, g3, g4, g5, by rw [hw p hp]; exact g6, ?_⟩
  have hd := mkrsOk_spec hmo g3 hi (Ne.symm (hne p hp))
  rw [Act.put_comm a (x := o.dst) (y := some d) v (val p.2) (fun e he he2 => hd (by rw [he, he2])), g7]
theorem lst_false {E : List (Nat × Nat)} {listed : Array Bool} {j : Nat} (h : (lst E listed).getD j true = false) : listed.getD j true = false := by
  induction E generalizing listed with
  | nil => exact h
  | cons p E ih =>
    have h1 := ih (listed := listed.setIfInBounds p.1 true) h
    by_cases hj : p.1 = j
    · subst hj
      exfalso
      rcases Nat.lt_or_ge p.1 listed.size with h' | h'
      · simp [h'] at h1
      · simp [Array.getElem?_eq_none (show (listed.setIfInBounds p.1 true).size ≤ p.1 by simpa using h')] at h1
    · rwa [getD_set_ne true hj] at h1
theorem lst_not {E : List (Nat × Nat)} {listed : Array Bool} {j : Nat} (h : (lst E listed).getD j true = false) : ∀ p ∈ E, p.1 ≠ j := by
  intro p hp e
  subst e
  rw [← lst_mem_set hp] at h
  rcases Nat.lt_or_ge p.1 (lst E listed).size with h' | h'
  · simp [h'] at h
  · simp [Array.getElem?_eq_none (show ((lst E listed).setIfInBounds p.1 true).size ≤ p.1 by simpa using h')] at h
theorem less_weak {B : Base} {E E' : List (Nat × Nat)} (hE : ∀ p ∈ E', p ∈ E) {M : List Place} {H : Heap} {w : World} (r : RelH M H (B.less E) w) : RelH M H (B.less E') w :=
  r.rebase (B' := B.less E') (fun k h => ⟨h.1, fun p hp => h.2 p (hE p hp)⟩) (fun k h => ⟨h.1, fun p hp => h.2 p (hE p hp)⟩) (fun k pl h => h) (fun k ob _ h => h.elim (fun h => .inl ⟨h.1, fun p hp => h.2 p (hE p hp)⟩) .inr) (fun k h => h)
theorem less_nil {B : Base} {M : List Place} {H : Heap} {w : World} (r : RelH M H (B.less []) w) : RelH M H B w :=
  r.rebase (fun k h => h.1) (fun k h => h.1) (fun k pl h => h) (fun k ob _ h => h.elim (fun h => .inl h.1) .inr) (fun k h => h)
theorem made {P : Program} {M : List Place} {st : St} {B : Base} {a : Act} {w : World} {o : Oper} {f : Nat → AV} {c : Cont} {val : Nat → Value} {cs : Array Value} {el : TypeId} {k : Nat} (hm : Makes P o f c val cs el k) (ht : RelT M st.tmps a.tmps) (hH : RelH M st.heap B w) {g : Nat}
    (hg : w.heap[g]? = some (.cells cs el)) (hB : B.w g ∧ B.vis g) (hf : ¬ B.f g ∧ ∀ ob, ¬ FzAt M g ob) (hs : ∀ (i : Nat) (o : AObj) (pl : Place), st.heap[i]? = some (some o) → M[i]? = some pl → pl.nil = false → pl.blk ≠ g) {d : Tmp} (hd : o.dst = some d) (ha : a.put (some d) (val g) = a) :
    ∃ M', Ext M M' ∧ RelT M' (st.put o.dst (f st.heap.length)).tmps a.tmps ∧ RelH M' (st.heap ++ [some ⟨c, true, none⟩]) B w := by
  refine ⟨M ++ [⟨false, g, 0, k, cs.size, noFz⟩], Ext.snoc _ _, ?_, ?_⟩
  · have h1 := (ht.mono (Ext.snoc M [⟨false, g, 0, k, cs.size, noFz⟩])).put (hm.rel (M ++ [⟨false, g, 0, k, cs.size, noFz⟩]) st.heap.length g (by rw [hH.len]; simp)) d
    rw [hd]
    have e : a.tmps.setIfInBounds d (val g) = a.tmps := congrArg Act.tmps ha
    rw [e] at h1
    exact h1
  · refine hH.add (.inr ⟨rfl, cs, el, (0, 0), hg, rfl, by simpa using hm.le, ?_, fun _ => ⟨.inl rfl, rfl, hB.1⟩⟩) (fun k h => by cases h) (fun _ => hB.2) (fun i oi pi hi hpi _ hn _ => hs i oi pi hi hpi hn) rfl (fun _ _ => hf)
    simp only [List.drop_zero]
    exact hm.cont M
theorem evAny_sound {P : Program} (hP : Callable P) {cal : Cal ρ} (hcal : ∀ f, CalAt P f (cal f)) {ops : Array Oper} (hs : Region.noSelect ops = true) {ms : List (Nat × Tmp)} (hms : MsOk P ops ms) (hmo : mkrsOk ops ms = true) {Q : Exit → Act → World → Prop} {K : St → Option ρ} {r : ρ} {B : Base} {w0 : World} :
    ∀ (n m : Nat) (Z Zc E : List (Nat × Nat)) (listed : Array Bool) (st : St) (M : List Place) (a : Act) (w : World), evAny P cal ops ms n Z listed st K = some r → Closed ops listed → ZRel M Z Zc → (∀ p ∈ Zc, p.2 < w.heap.size) → Ahead P ops ms B listed E a w →
      RelT M (clearM listed ms st).tmps a.tmps → a.defers = B.ds → RelH M st.heap (B.less E) w → Beneath B w0 w → cntF (lst E listed) ≤ m → (∀ M' st' a' w', Ext M M' → K st' = some r → Rel M' st' B w0 a' w' → Q .normal a' w') →
      wpAnyD P ops (fun e a w => e = .normal ∧ Q .normal a w) ops.size m Zc (lst E listed) a w := by
  have stop : ∀ (m : Nat) (Zc E : List (Nat × Nat)) (listed : Array Bool) (st : St) (M : List Place) (a : Act) (w : World), Region.ready .any ops listed = [] → K (clearM listed ms st) = some r → Ahead P ops ms B listed E a w →
      RelT M (clearM listed ms st).tmps a.tmps → a.defers = B.ds → RelH M st.heap (B.less E) w → Beneath B w0 w → (∀ M' st' a' w', Ext M M' → K st' = some r → Rel M' st' B w0 a' w' → Q .normal a' w') →
      wpAnyD P ops (fun e a w => e = .normal ∧ Q .normal a w) ops.size m Zc (lst E listed) a w := by
    intro m Zc E listed st M a w hrd h hA ht hd hH hb hn
    have hE : E = [] := by
      cases E with
      | nil => rfl
      | cons p E => have := (hA.each p (List.mem_cons_self ..)).1; rw [hrd] at this; cases this
    subst hE
    exact wpAnyD_done hrd ⟨rfl, hn M _ a w (Ext.refl M) h ⟨ht, hd, by rw [clearM_heap]; exact less_nil hH, hb⟩⟩ m
  intro n
  induction n with
  | zero =>
    intro m Z Zc E listed st M a w h hc hz hzlt hA ht hd hH hb hm hn
    unfold evAny at h
    split at h
    · rename_i hrd
      exact stop m Zc E listed st M a w hrd h hA ht hd hH hb hn
    · cases h
  | succ n ihn =>
    intro m
    induction m using Nat.strongRecOn with
    | _ m ihm =>
    intro Z Zc E listed st M a w h hc hz hzlt hA ht hd hH hb hm hn
    have h0 := h
    have hcl : Closed ops (lst E listed) := closed_lst hc fun p hp => (hA.each p hp).1
    have hR : Rel M (clearM listed ms st) (B.less E) w a w := ⟨ht, hd, by rw [clearM_heap]; exact hH, Beneath.refl _ _⟩
    have fuel : ∀ {j : Nat}, (lst E listed).getD j true = false → ∃ m', m = m' + 1 ∧ cntF (lst E (listed.setIfInBounds j true)) ≤ m' := by
      intro j hj
      have := cntF_set hj
      rw [lst_set]
      exact ⟨m - 1, by omega, by omega⟩
    have ahead : ∀ (st1 : St), st1.heap = st.heap → RelT M st1.tmps a.tmps → ∀ {l : List Nat} {i : Nat} {o : Oper} {req : Bool} {x : AV} {zb : Option Nat}, Region.ready .any ops listed = l → pick P ops listed st1 l = some (i, o, req, x, zb) →
        cond req (evAny P cal ops ms n (zcons i zb Z) (listed.setIfInBounds i true) (st1.put o.dst x) K) none = some r → wpAnyD P ops (fun e a w => e = .normal ∧ Q .normal a w) ops.size m Zc (lst E listed) a w := by
      intro st1 hh1 ht1 l i o req x zb hrd hp h
      have hr1 : Rel M st1 (B.less E) w a w := ⟨ht1, hd, by rw [hh1]; exact hH, Beneath.refl _ _⟩
      cases req with
      | false => cases h
      | true =>
        obtain ⟨h1, h2, h3, v, hv, h4⟩ := pick_sound hr1 hp
        have hrdy : i ∈ Region.ready .any ops listed := by rw [hrd]; exact h1
        have hnm : ∀ p ∈ E, p.1 ≠ i := by
          intro p hp' e
          obtain ⟨_, _, _, oo, d, f, c, _, _, _, _, g1, _, _, g4, _⟩ := hA.each p hp'
          rw [e, h2] at g1
          cases g1
          obtain ⟨q1, q2, q3⟩ := mkr_aq g4
          unfold pick at hp
          split at hp
          · rename_i i' o' req' x' hpp
            cases hp
            obtain ⟨_, _, _, s4⟩ := pickP_spec hpp
            rcases s4 with ⟨_, _, s⟩ | ⟨s, _⟩
            · rw [q3] at s; cases s
            · unfold guardSt at s; rw [q1] at s; cases s
          · split at hp
            · split at hp
              · rename_i i' o' req' x' b hpp
                cases hp
                obtain ⟨_, _, s3, _⟩ := pickL_spec hpp
                rw [q2] at s3; cases s3
              · cases hp
            · cases hp
        have hrdy' := ready_lst hrdy hnm
        obtain ⟨m', rfl, hm'⟩ := fuel (mem_ready.1 hrdy').1
        have hfree : ∀ j oj, ops[j]? = some oj → j ≠ i → (lst E listed).getD j true = false → (∀ e ∈ oj.after, Region.binds .any e = true → e.on ≠ i) → o.apart ops oj = true := fun j oj hj hji hun hno => Region.free_spec h2 h3 j oj hj hji (lst_false hun) hno
        have hA' := hA.put hmo h2 hrdy hnm (w' := w) (fun _ _ => rfl) v
        have ht' : RelT M (clearM (listed.setIfInBounds i true) ms (st1.put o.dst x)).tmps (a.put o.dst v).tmps := (hr1.put hv o.dst).tmps.clear _ _
        have hh' : (st1.put o.dst x).heap = st.heap := by rw [← hh1]; cases o.dst <;> rfl
        have hd' : (a.put o.dst v).defers = B.ds := by rw [← hd]; cases o.dst <;> rfl
        rcases h4 with ⟨rfl, h4⟩ | ⟨b, pl, ob, rfl, g1, g2, g4, g5⟩
        · refine wpAnyD_first (G := []) (S := fun _ => True) h2 (Region.noSelect_spec hs) (fun c a w hq => nomatch hq.1) (fun _ _ _ _ => trivial) m' Zc (lst E listed) a w (by simp) hcl hfree hrdy' h4 trivial ?_
          rw [← lst_set]
          exact ihn m' Z Zc E _ _ M _ w h (hc.set hrdy) hz hzlt hA' ht' hd' (by rw [hh']; exact hH) hb hm' hn
        · refine wpAnyD_less (Z := (i, pl.blk) :: Zc) (fun p hp => List.mem_cons_of_mem _ hp) ?_
          refine wpAnyD_first (G := [pl.blk]) (S := fun w' => w'.heap[pl.blk]? = some ob) h2 (Region.noSelect_spec hs) (fun c a w hq => nomatch hq.1) (fun w1 w2 hg hS => by rw [hg _ (by simp)]; exact hS) m' _ (lst E listed) a w (by simp) hcl hfree hrdy' g5 g4 ?_
          rw [← lst_set]
          refine ihn m' ((i, b) :: Z) ((i, pl.blk) :: Zc) E _ _ M _ w h (hc.set hrdy) ?_ ?_ hA' ht' hd' (by rw [hh']; exact hH) hb hm' hn
          · intro p hp
            rcases List.mem_cons.1 hp with rfl | hp
            · exact ⟨b, pl, List.mem_cons_self .., g1, g2, rfl⟩
            · obtain ⟨b', pl', z1, z2⟩ := hz p hp
              exact ⟨b', pl', List.mem_cons_of_mem _ z1, z2⟩
          · intro p hp
            rcases List.mem_cons.1 hp with rfl | hp
            · exact (Array.getElem?_eq_some_iff.1 g4).1
            · exact hzlt p hp
    have early : ∀ {k : Nat}, k ∈ Region.ready .any ops listed → isM ms k = true → k ∈ Region.ready .any ops (lst E listed) → ∀ {m' : Nat}, m = m' + 1 →
        wpOp P ops (fun e a w => e = .normal ∧ Q .normal a w) k (fun a' w' => (∀ p ∈ Zc, depB ops ops.size k p.1 = false → w'.heap[p.2]? = w.heap[p.2]?) ∧ ∃ Z', (∀ p ∈ Zc, p ∈ Z') ∧ wpAnyD P ops (fun e a w => e = .normal ∧ Q .normal a w) ops.size m' Z' ((lst E listed).setIfInBounds k true) a' w') a w := by
      intro k hk hkm hk' m' hm1
      have hkE := lst_not (mem_ready.1 hk').1
      obtain ⟨d, hkd⟩ := isM_mem hkm
      obtain ⟨o, f, c, ho, hdst, hmk⟩ := hms (k, d) hkd
      obtain ⟨val, cs, el, kk, hM⟩ := mkr_sound hmk
      have s1 : (w.alloc (.cells cs el)).heap.size = w.heap.size + 1 := by simp
      have g1 : (w.alloc (.cells cs el)).heap[w.heap.size]? = some (.cells cs el) := by
        show (w.heap.push _)[w.heap.size]? = some _
        simp
      have hbel := below_alloc w (.cells cs el)
      unfold wpOp
      rw [ho]
      have hw : Region.wanted o (yielded ops a.tmps) = true := by simp [Region.wanted, hM.guard]
      simp only [hw, if_true]
      refine .inl ?_
      unfold Oper.wp
      rw [hM.run a w]
      refine ⟨fun p hp _ => hbel.block _ (hzlt p hp), Zc, fun _ h => h, ?_⟩
      have e : (lst E listed).setIfInBounds k true = lst (E ++ [(k, w.heap.size)]) listed := (lst_snoc E (k, w.heap.size) listed).symm
      rw [e]
      have hEsz : ∀ p ∈ E, p.2 < w.heap.size := fun p hp => by
        obtain ⟨_, _, _, _, _, _, _, _, _, _, _, _, _, _, _, _, g6, _⟩ := hA.each p hp
        exact (Array.getElem?_eq_some_iff.1 g6).1
      have hbase := hH.base w.heap.size (Nat.le_refl _)
      refine ihm m' (by omega) Z Zc (E ++ [(k, w.heap.size)]) listed st M (a.put o.dst (val w.heap.size)) _ h0 hc hz (fun p hp => by rw [s1]; have := hzlt p hp; omega) ?_ ?_ ?_ ?_ (hb.trans (Beneath.of hbel)) ?_ hn
      · refine ⟨fun p hp => ?_, ?_, ?_⟩
        · rcases List.mem_append.1 hp with hp | hp
          · obtain ⟨h1, h2, h3, oo, d', f', c', val', cs', el', k', q1, q2, q3, q4, q5, q6, q7⟩ := hA.each p hp
            refine ⟨h1, h2, h3, oo, d', f', c', val', cs', el', k', q1, q2, q3, q4, q5, by rw [hbel.block _ (hEsz p hp)]; exact q6, ?_⟩
            have hdd := mkrsOk_spec hmo q3 ho (Ne.symm (hkE p hp))
            rw [Act.put_comm a (x := o.dst) (y := some d') _ (val' p.2) (fun e he he2 => hdd (by rw [he, he2])), q7]
          · simp only [List.mem_cons, List.not_mem_nil, or_false] at hp
            subst hp
            refine ⟨hk, hkm, ⟨hbase.1.1, hbase.2.1, hH.bf _ (Nat.le_refl _)⟩, o, d, f, c, val, cs, el, kk, ho, hdst, hkd, hmk, hM, g1, ?_⟩
            rw [hdst]
            simp only [Act.put]
            congr 1
            apply Array.ext
            · simp
            · intro t h1 h2
              by_cases ht2 : d = t
              · subst ht2; simp
              · simp [Array.getElem_setIfInBounds_ne (h := ht2)]
        · intro p hp q hq hpq
          rcases List.mem_append.1 hp with hp | hp <;> rcases List.mem_append.1 hq with hq | hq
          · exact hA.apart p hp q hq hpq
          · simp only [List.mem_cons, List.not_mem_nil, or_false] at hq
            subst hq
            rcases hpq with e | e
            · exact absurd e (hkE p hp)
            · have := hEsz p hp; simp only at e; omega
          · simp only [List.mem_cons, List.not_mem_nil, or_false] at hp
            subst hp
            rcases hpq with e | e
            · exact absurd e.symm (hkE q hq)
            · have := hEsz q hq; simp only at e; omega
          · simp only [List.mem_cons, List.not_mem_nil, or_false] at hp hq
            rw [hp, hq]
        · rw [List.nodup_append]
          refine ⟨hA.nodup, by simp, fun p hp q hq e => ?_⟩
          simp only [List.mem_cons, List.not_mem_nil, or_false] at hq
          subst e
          exact hkE p hp (by rw [hq])
      · rw [hdst]
        exact ht.putAny (clearM_undef listed ms st hkd (mem_ready.1 hk).1) _
      · rw [← hd]; cases o.dst <;> rfl
      · have hH1 : RelH M st.heap (B.less E) (w.alloc (.cells cs el)) := hH.below hbel
        have nofz : ∀ j ob, FzAt M j ob → ∀ p ∈ E ++ [(k, w.heap.size)], j ≠ p.2 := fun j ob hj p hp => by
          rcases List.mem_append.1 hp with hp | hp
          · exact (hH1.fz j ob hj).2.1.2 p hp
          · simp only [List.mem_cons, List.not_mem_nil, or_false] at hp
            rw [hp]
            exact Nat.ne_of_lt (hH.fz_lt hj)
        refine ⟨hH1.len, fun j hj => ?_, fun j oj hj => ?_, hH1.sep, hH1.pin, fun j oj pl hj hpl hnl => ?_, fun j ob hj => ⟨(hH1.fz j ob hj).1, ⟨(hH1.fz j ob hj).2.1.1, nofz j ob hj⟩, (hH1.fz j ob hj).2.2.elim (fun h => .inl ⟨h.1, nofz j ob hj⟩) .inr⟩, hH1.fo, hH1.bf⟩
        · have := hH1.base j hj
          rw [s1] at hj
          refine ⟨⟨this.1.1, fun p hp => ?_⟩, ⟨this.2.1, fun p hp => ?_⟩⟩
          all_goals
            rcases List.mem_append.1 hp with hp | hp
            · have := hEsz p hp; omega
            · simp only [List.mem_cons, List.not_mem_nil, or_false] at hp
              rw [hp]
              show j ≠ w.heap.size
              omega
        · obtain ⟨pl, hpl, hok⟩ := hH.obj j oj hj
          refine ⟨pl, hpl, ?_⟩
          rcases hok with hok | ⟨q1, cs', el', fz, q2, q3, q4, q5, q6⟩
          · exact .inl hok
          · have hlt := (Array.getElem?_eq_some_iff.1 q2).1
            refine .inr ⟨q1, cs', el', fz, by rw [hbel.block _ hlt]; exact q2, q3, q4, q5, fun e => ⟨(q6 e).1, (q6 e).2.1, (q6 e).2.2.1, fun p hp => ?_⟩⟩
            rcases List.mem_append.1 hp with hp | hp
            · exact (q6 e).2.2.2 p hp
            · simp only [List.mem_cons, List.not_mem_nil, or_false] at hp
              rw [hp]
              show pl.blk ≠ w.heap.size
              omega
        · have hv := hH1.vis j oj pl hj hpl hnl
          obtain ⟨pl', hpl', hok⟩ := hH.obj j oj hj
          rw [hpl] at hpl'; cases hpl'
          have hlt := objOk_lt hok hnl
          refine ⟨hv.1, fun p hp => ?_⟩
          rcases List.mem_append.1 hp with hp | hp
          · exact hv.2 p hp
          · simp only [List.mem_cons, List.not_mem_nil, or_false] at hp
            rw [hp]
            show pl.blk ≠ w.heap.size
            omega
      · rw [← e]
        have := cntF_set (mem_ready.1 hk').1
        omega
    unfold evAny at h
    split at h
    · rename_i hrd
      exact stop m Zc E listed st M a w hrd h hA ht hd hH hb hn
    · rename_i i0 rs hrd
      have hEr : ∀ p ∈ E, p.1 ∈ i0 :: rs := fun p hp => by rw [← hrd]; exact (hA.each p hp).1
      split at h
      · rename_i i o req x zb hp
        exact ahead _ (clearM_heap ..) ht hrd hp h
      · split at h
        · rename_i d b hu
          have hu : pickU ops (clearM listed ms st) (i0 :: rs) = some (d, b) := by
            cases rs with
            | nil => cases hu
            | cons _ _ => exact hu
          have hst := pickU_spec hu
          have hlit : RelT M ((clearM listed ms st).put (some d) (.bool (some b) b)).tmps a.tmps := by
            have hv := ht.2 d
            rw [hst] at hv
            obtain ⟨e, _⟩ := relV_bool hv
            have h1 := hR.put (x := .bool (some b) b) (v := .bool b) (by simp [RelV, RelX]) (some d)
            rw [← e, put_self] at h1
            exact h1.tmps
          cases b with
          | true =>
            simp only [cond_true] at h
            split at h
            · rename_i i o req x zb hp
              exact ahead ((clearM listed ms st).put (some d) (.bool (some true) true)) (clearM_heap listed ms st) hlit hrd hp h
            · cases h
          | false =>
            simp only [cond_false] at h
            split at h
            · rename_i i o req x zb hp
              exact ahead ((clearM listed ms st).put (some d) (.bool (some false) false)) (clearM_heap listed ms st) hlit hrd hp h
            · cases h
        · split at h
          · rename_i j hj
            split at h
            case isFalse => cases h
            rename_i hal
            split at h
            · rename_i o ho
              have hjm : j ∈ (i0 :: rs).filter fun i => !isM ms i := by rw [hj]; simp
              obtain ⟨hjr, hjn⟩ := List.mem_filter.1 hjm
              have hjE : ∀ p ∈ E, p.1 ≠ j := fun p hp e => by
                have := (hA.each p hp).2.1
                rw [e] at this
                rw [this] at hjn
                cases hjn
              have hjr' : j ∈ Region.ready .any ops listed := by rw [hrd]; exact hjr
              have hjl := ready_lst hjr' hjE
              obtain ⟨m', hm1, hm'⟩ := fuel (mem_ready.1 hjl).1
              rw [hm1]
              refine ⟨fun hemp => (by rw [hemp] at hjl; cases hjl), fun k hk => ?_⟩
              by_cases hkj : k = j
              · subst hkj
                refine evStep_sound hP hcal ho h hR fun M' st' a' w' hE hk2 hr' hact hu => ⟨fun p hp hdp => ?_, Zc, fun _ h => h, ?_⟩
                · obtain ⟨b, pl, z1, z2, z3, z4⟩ := hz p hp
                  rw [← z4]
                  refine hu b ?_ pl z2 z3
                  unfold heldBy
                  exact List.mem_map.2 ⟨(p.1, b), List.mem_filter.2 ⟨z1, by simp [hdp]⟩, rfl⟩
                · obtain ⟨v, rfl⟩ := hact
                  rw [← lst_set]
                  have hbl : ∀ p ∈ E, w'.heap[p.2]? = w.heap[p.2]? := fun p hp => by
                    obtain ⟨_, _, _, _, _, _, _, _, _, _, _, _, _, _, _, _, g6, _⟩ := hA.each p hp
                    exact hr'.below.block _ (Array.getElem?_eq_some_iff.1 g6).1 fun h2 => h2.2 p hp rfl
                  have hbw : Beneath B w w' := ⟨hr'.below.os, hr'.below.tape, hr'.below.output, hr'.below.size, fun q hq hnq => hr'.below.block q hq fun h2 => hnq h2.1⟩
                  exact ihn m' Z Zc E _ st' M' _ w' hk2 (hc.set hjr') (hz.mono hE) (fun p hp => Nat.lt_of_lt_of_le (hzlt p hp) hr'.below.size) (hA.put hmo ho hjr' hjE hbl v) (hr'.tmps.clear _ _) hr'.defers hr'.heap (hb.trans hbw) hm'
                    fun M2 st3 a3 w3 hE2 => hn M2 st3 a3 w3 (hE.trans hE2)
              · 
                have hmk : k ∈ (i0 :: rs).filter (isM ms) := by
                  by_cases hin : k ∈ (i0 :: rs).filter (isM ms)
                  · exact hin
                  · exfalso
                    have hEf : ∀ p ∈ E, p.1 ∈ (i0 :: rs).filter (isM ms) := fun p hp => List.mem_filter.2 ⟨hEr p hp, (hA.each p hp).2.1⟩
                    have hmore := ready_more hEf hk hin
                    rcases aloneOk_spec hal with hnil | h1
                    · rw [hnil] at hmore
                      simp only [List.foldl_nil] at hmore
                      rw [hrd] at hmore
                      have : k ∈ (i0 :: rs).filter fun i => !isM ms i := by
                        refine List.mem_filter.2 ⟨hmore, ?_⟩
                        cases hq : isM ms k
                        · rfl
                        · exact absurd (List.mem_filter.2 ⟨hmore, hq⟩) hin
                      rw [hj] at this
                      simp at this
                      exact hkj this
                    · change k ∈ Region.ready .any ops (setAll _ listed) at hmore
                      rw [h1] at hmore
                      simp at hmore
                      exact hkj hmore
                obtain ⟨hkr, hkm⟩ := List.mem_filter.1 hmk
                exact early (by rw [hrd]; exact hkr) hkm hk hm1
            · cases h
          · rename_i hnil
            split at h
            case isFalse => cases h
            rename_i hal
            split at h
            · rename_i o ho
              split at h
              · rename_i f c hmk
                have hallM : ∀ k ∈ i0 :: rs, isM ms k = true := by
                  intro k hk
                  cases hq : isM ms k
                  · have : k ∈ (i0 :: rs).filter fun i => !isM ms i := List.mem_filter.2 ⟨hk, by simp [hq]⟩
                    rw [hnil] at this
                    cases this
                  · rfl
                have hi0 : i0 ∈ Region.ready .any ops listed := by rw [hrd]; simp
                obtain ⟨d, hi0d⟩ := isM_mem (hallM i0 (by simp))
                obtain ⟨o', f', c', ho', hdst, hmk'⟩ := hms (i0, d) hi0d
                rw [ho] at ho'; cases ho'
                rw [hmk] at hmk'; cases hmk'
                have told : ∀ (E' : List (Nat × Nat)) (g : Nat) (val : Nat → Value) (cs : Array Value) (el : TypeId) (kk : Nat) (a1 : Act) (w1 : World) (m1 : Nat), Makes P o f c val cs el kk → w1.heap[g]? = some (.cells cs el) → (B.less E').w g ∧ (B.less E').vis g → (¬ B.f g ∧ ∀ ob, ¬ FzAt M g ob) →
                    (∀ (i : Nat) (o : AObj) (pl : Place), st.heap[i]? = some (some o) → M[i]? = some pl → pl.nil = false → pl.blk ≠ g) → a1.put (some d) (val g) = a1 → RelT M (clearM listed ms st).tmps a1.tmps → a1.defers = B.ds → RelH M st.heap (B.less E') w1 → Beneath B w0 w1 →
                    Ahead P ops ms B (listed.setIfInBounds i0 true) E' a1 w1 → (∀ p ∈ Zc, p.2 < w1.heap.size) → cntF (lst E' (listed.setIfInBounds i0 true)) ≤ m1 →
                    wpAnyD P ops (fun e a w => e = .normal ∧ Q .normal a w) ops.size m1 Zc (lst E' (listed.setIfInBounds i0 true)) a1 w1 := by
                  intro E' g val cs el kk a1 w1 m1 hMk hg hBg hfg hsep ha1 ht1 hd1 hH1 hb1 hA1 hz1 hm1
                  obtain ⟨M', hE, hT, hHH⟩ := made (st := ⟨(clearM listed ms st).tmps, st.heap⟩) hMk ht1 hH1 hg hBg hfg hsep hdst ha1
                  refine ihn m1 Z Zc E' _ _ M' a1 w1 h (hc.set hi0) (hz.mono hE) hz1 hA1 ?_ hd1 hHH hb1 hm1 fun M2 st3 a3 w3 hE2 => hn M2 st3 a3 w3 (hE.trans hE2)
                  refine RelT.clear (st := ⟨_, _⟩) ?_ _ _
                  have e1 : ((clearM listed ms st).put o.dst (f st.heap.length)).tmps = (St.put ⟨(clearM listed ms st).tmps, st.heap⟩ o.dst (f st.heap.length)).tmps := by cases o.dst <;> rfl
                  rw [e1]
                  exact hT
                by_cases hin : ∃ p ∈ E, p.1 = i0
                · 
                  obtain ⟨p, hp, hpe⟩ := hin
                  obtain ⟨_, _, hBp, oo, d', f', c', val, cs, el, kk, q1, q2, q3, q4, q5, q6, q7⟩ := hA.each p hp
                  rw [hpe, ho] at q1; cases q1
                  rw [hdst] at q2; cases q2
                  rw [hmk] at q4; cases q4
                  have hlst : lst E listed = lst (E.erase p) (listed.setIfInBounds i0 true) := by rw [← lst_erase hp, hpe]
                  have hsub : ∀ q ∈ E.erase p, q ∈ E := fun q hq => List.mem_of_mem_erase hq
                  have hne2 : ∀ q ∈ E.erase p, q ≠ p := fun q hq e => by
                    subst e
                    exact (List.Nodup.not_mem_erase hA.nodup) hq
                  rw [hlst]
                  refine told (E.erase p) p.2 val cs el kk a w m q5 q6 ⟨⟨hBp.1, fun q hq e => hne2 q hq (hA.apart q (hsub q hq) p hp (.inr e.symm))⟩, ⟨hBp.2.1, fun q hq e => hne2 q hq (hA.apart q (hsub q hq) p hp (.inr e.symm))⟩⟩ ⟨hBp.2.2, fun ob h => (hH.fz _ ob h).2.1.2 p hp rfl⟩
                    (fun i o pl hi hpl hnl e => (hH.vis i o pl hi hpl hnl).2 p hp e) q7 ht hd (less_weak hsub hH) hb ?_ hzlt (by rw [← hlst]; exact hm)
                  refine ⟨fun q hq => ?_, fun q hq q' hq' => hA.apart q (hsub q hq) q' (hsub q' hq'), hA.nodup.erase _⟩
                  obtain ⟨r1, r2⟩ := hA.each q (hsub q hq)
                  refine ⟨ready_mono r1 fun e => hne2 q hq (hA.apart q (hsub q hq) p hp (.inl (e.trans hpe.symm))), r2⟩
                · have hiE : ∀ p ∈ E, p.1 ≠ i0 := fun p hp e => hin ⟨p, hp, e⟩
                  have hil := ready_lst hi0 hiE
                  obtain ⟨m', hm1, hm'⟩ := fuel (mem_ready.1 hil).1
                  rw [hm1]
                  refine ⟨fun hemp => (by rw [hemp] at hil; cases hil), fun k hk => ?_⟩
                  by_cases hki : k = i0
                  · subst hki
                    obtain ⟨val, cs, el, kk, hMk⟩ := mkr_sound hmk
                    have s1 : (w.alloc (.cells cs el)).heap.size = w.heap.size + 1 := by simp
                    have g1 : (w.alloc (.cells cs el)).heap[w.heap.size]? = some (.cells cs el) := by
                      show (w.heap.push _)[w.heap.size]? = some _
                      simp
                    have hbel := below_alloc w (.cells cs el)
                    unfold wpOp
                    rw [ho]
                    have hw : Region.wanted o (yielded ops a.tmps) = true := by simp [Region.wanted, hMk.guard]
                    simp only [hw, if_true]
                    refine .inl ?_
                    unfold Oper.wp
                    rw [hMk.run a w]
                    refine ⟨fun p hp _ => hbel.block _ (hzlt p hp), Zc, fun _ h => h, ?_⟩
                    rw [← lst_set]
                    have hbase := hH.base w.heap.size (Nat.le_refl _)
                    refine told E w.heap.size val cs el kk _ _ m' hMk g1 hbase ⟨hH.bf _ (Nat.le_refl _), fun ob h => absurd (hH.fz_lt h) (Nat.lt_irrefl _)⟩ (fun i oi pl hi hpl hnl => ?_) ?_ ?_ ?_ (hH.below hbel) (hb.trans (Beneath.of hbel)) ?_ (fun p hp => by rw [s1]; have := hzlt p hp; omega) hm'
                    · obtain ⟨pl', hpl', hok⟩ := hH.obj i oi hi
                      rw [hpl] at hpl'; cases hpl'
                      have := objOk_lt hok hnl
                      omega
                    · rw [hdst]
                      simp only [Act.put]
                      congr 1
                      apply Array.ext
                      · simp
                      · intro t h1 h2
                        by_cases ht2 : d = t
                        · subst ht2; simp
                        · simp [Array.getElem_setIfInBounds_ne (h := ht2)]
                    · rw [hdst]
                      exact ht.putAny (clearM_undef listed ms st hi0d (mem_ready.1 hi0).1) _
                    · rw [← hd]; cases o.dst <;> rfl
                    · refine hA.put hmo ho hi0 hiE (fun p hp => ?_) _
                      obtain ⟨_, _, _, _, _, _, _, _, _, _, _, _, _, _, _, _, g6, _⟩ := hA.each p hp
                      exact hbel.block _ (Array.getElem?_eq_some_iff.1 g6).1
                  · have hkr : k ∈ rs := by
                      by_cases hin2 : k ∈ rs
                      · exact hin2
                      · exfalso
                        have hEf : ∀ p ∈ E, p.1 ∈ rs := fun p hp => by
                          rcases List.mem_cons.1 (hEr p hp) with e | e
                          · exact absurd e (hiE p hp)
                          · exact e
                        have hmore := ready_more hEf hk hin2
                        rcases aloneOk_spec hal with hnil2 | h1
                        · rw [hnil2] at hmore
                          simp only [List.foldl_nil] at hmore
                          rw [hrd, hnil2] at hmore
                          simp at hmore
                          exact hki hmore
                        · change k ∈ Region.ready .any ops (setAll _ listed) at hmore
                          rw [h1] at hmore
                          simp at hmore
                          exact hki hmore
                    exact early (by rw [hrd]; exact List.mem_cons_of_mem _ hkr) (hallM k (List.mem_cons_of_mem _ hkr)) hk hm1
              · cases h
            · cases h
          · cases h
theorem closed_none (ops : Array Oper) (n : Nat) : Closed ops (Array.replicate n false) := fun j o _ hj => by
  exfalso
  rcases Nat.lt_or_ge j n with h | h
  · simp [h] at hj
  · simp [Array.getElem?_eq_none (show (Array.replicate n false).size ≤ j by simpa using h)] at hj
def evAnyR (P : Program) (cal : Cal ρ) (ops : Array Oper) (st : St) (K : St → Option ρ) : Option ρ :=
  if (Region.noSelect ops && mkrsOk ops (mkrs P ops)) = true then evAny P cal ops (mkrs P ops) ops.size [] (Array.replicate ops.size false) st K else none
def riskyCall (P : Program) (o : Oper) : Bool := match o.op with
  | .call c => match c.callee with
    | .value (.tmp _) => true
    | .value _ => c.argTypes.any fun t => match P.underlying t with
      | some (.pointer _) => true
      | _ => false
    | _ => false
  | _ => false
def feeds (P : Program) (ops : Array Oper) (o : Oper) : Bool := match o.op, o.dst with
  | .call c, some d =>
    (match c.callee with
      | .value (.func f) => (match P.funcs[f]? with
        | some fn => fn.resultTypes.any fun t => match P.underlying t with
          | some (.slice _) => true
          | _ => false
        | none => false)
      | _ => false) &&
    ops.any fun o' => match o'.op with
      | .call c' => c'.args.any fun x => match x with
        | .tmp t => t == d
        | _ => false
      | _ => false
  | _, _ => false
def risky (P : Program) (ops : Array Oper) : Bool := ops.any (riskyCall P) || ops.any (feeds P ops)
def slicey (P : Program) (ops : Array Oper) : Bool := ops.any fun o => match o.op with
  | .call c => (match c.callee with
      | .value (.func f) => (match P.funcs[f]? with
        | some fn => fn.resultTypes.any fun t => match P.underlying t with
          | some (.slice _) => true
          | _ => false
        | none => false)
      | _ => false)
  | _ => false
def convAt (P : Program) : List Oper → Nat → Option Nat
  | [], _ => none
  | o :: l, i => match o.op with
    | .convert s d _ => (match P.underlying s, P.underlying d with
      | some (.slice _), _ => some i
      | _, some (.slice _) => some i
      | _, _ => convAt P l (i + 1))
    | _ => convAt P l (i + 1)
def hdLenP (P : Program) (ops : Array Oper) : Nat :=
  match convAt P ops.toList 0 with
  | some j => if j < hdLen ops then j else hdLen ops
  | none => hdLen ops
def evRegion (P : Program) (cal : Cal ρ) (qcal : QCal ρ) (ops : Array Oper) (draw : Bool) (st : St) (K : St → Option ρ) : Option ρ :=
  match draw with
  | false => evList P cal ops ops.toList st K
  | true => if P.follows .mixedOrders = true then
      if risky P ops = true then evAnyR P cal ops st K
      else if hdLenP P ops = ops.size then (if (Region.lexB .any ops && !slicey P ops) = true then evQList P qcal ops ops.toList st K else evAnyR P cal ops st K)
      else if Region.lexTailB .any ops (hdLenP P ops) = true then
        evQList P qcal ops (ops.toList.take (hdLenP P ops)) st fun st' => evList P cal ops (ops.toList.drop (hdLenP P ops)) st' K
      else evAnyR P cal ops st K
    else none
theorem evRegion_sound {P : Program} (hP : Callable P) {cal : Cal ρ} (hcal : ∀ f, CalAt P f (cal f)) {qcal : QCal ρ} (hq : ∀ f, QCalAt P f (qcal f)) {ops : Array Oper} {draw : Bool} {id : Nat} {st : St} {K : St → Option ρ} {r : ρ} (h : evRegion P cal qcal ops draw st K = some r)
    {M : List Place} {B : Base} {w0 : World} {a : Act} {w : World} (hr : Rel M st B w0 a w) {Q : Exit → Act → World → Prop} (hn : ∀ M' st' a' w', Ext M M' → K st' = some r → Rel M' st' B w0 a' w' → Q .normal a' w') : (Code.region id ops draw).wp P Q a w := by
  unfold evRegion at h
  split at h
  · exact wp_region_list (evList_sound hP hcal h hr hn)
  · split at h
    · rename_i hm
      have hb0 : Below w.heap.size w w.drew := (Below.refl _ _).drew
      have hH0 : RelH M st.heap B w.drew := hr.heap.below hb0
      have later : ∀ (st' : St) (a' : Act) (w' : World), RelT M st'.tmps a'.tmps → st'.heap = st.heap → a'.defers = B.ds → Below w.drew.heap.size w.drew w' → Rel M st' B w0 a' w' := by
        intro st' a' w' ht hh hd hb
        exact ⟨ht, hd, by rw [hh]; exact hH0.below hb, hr.below.trans ((Beneath.of hb0).trans (Beneath.of hb))⟩
      have anyR : evAnyR P cal ops st K = some r → (Code.region id ops true).wp P Q a w := by
        intro h
        unfold evAnyR at h
        split at h
        · rename_i hs
          refine Code.wp_mono (Q := fun e a w => e = .normal ∧ Q .normal a w) (fun e a w ⟨e1, e2⟩ => by subst e1; exact e2) (wp_region_any hm ?_)
          have hs' := Bool.and_eq_true_iff.1 hs
          have hr0 := later st a w.drew hr.tmps rfl hr.defers (Below.refl _ _)
          have hcnt : cntF (lst [] (Array.replicate ops.size false)) ≤ ops.size := by simp [lst, cntF]
          exact wpAny_of_D _ _ _ _ _ (evAny_sound hP hcal hs'.1 (mkrs_ok P ops) hs'.2 ops.size ops.size [] [] [] _ st M a w.drew h (closed_none ops _) (fun p hp => by cases hp) (fun p hp => by cases hp)
            ⟨fun p hp => (by cases hp), fun p hp => (by cases hp), List.nodup_nil⟩ (hr0.tmps.clear _ _) hr0.defers (hr0.heap.rebase (B' := B.less []) (fun k h => ⟨h, fun p hp => by cases hp⟩) (fun k h => ⟨h, fun p hp => by cases hp⟩) (fun k pl h => h) (fun k ob _ h => h.elim (fun h => .inl ⟨h, fun p hp => by cases hp⟩) .inr) (fun k h => h)) hr0.below hcnt hn)
        · cases h
      split at h
      · exact anyR h
      split at h
      · split at h
        · rename_i hB
          have hB := (Bool.and_eq_true_iff.1 hB).1
          refine wp_region_quiet (C := fun w' => Below w.drew.heap.size w.drew w') hm hB (Below.refl _ _) ?_
          exact evQList_sound hP hq hH0 h hr.tmps rfl hr.defers fun st' a' hk ht hh hd w' hb => hn M st' a' w' (Ext.refl M) hk (later st' a' w' ht hh hd hb)
        · exact anyR h
      · split at h
        · rename_i hB
          refine wp_region_quiet_tail (C := fun w' => Below w.drew.heap.size w.drew w') _ hm hB (Below.refl _ _) ?_
          exact evQList_sound hP hq hH0 h hr.tmps rfl hr.defers fun st' a' hk ht hh hd w' hb => evList_sound hP hcal hk (later st' a' w' ht hh hd hb) hn
        · exact anyR h
    · cases h
abbrev Ann (ρ : Type) := St → (Exit → St → Option ρ) → Option ρ
def ExtO (x : Bool) (M M' : List Place) : Prop := x = true → Ext M M'
theorem ExtO.of {x : Bool} {M M' : List Place} (h : Ext M M') : ExtO x M M' := fun _ => h
theorem ExtO.trans {x : Bool} {A B C : List Place} (h : ExtO x A B) (k : ExtO x B C) : ExtO x A C := fun e => (h e).trans (k e)
def AnnAt (P : Program) (x : Bool) (B : Base) (w0 : World) (c : Code) (an : Ann ρ) : Prop :=
  ∀ (st : St) (K : Exit → St → Option ρ) (r : ρ), an st K = some r → ∀ (M : List Place) (a : Act) (w : World) (Q : Exit → Act → World → Prop), Rel M st B w0 a w →
    (∀ e M' st' a' w', ExtO x M M' → K e st' = some r → Rel M' st' B w0 a' w' → Q e a' w') → c.wp P Q a w
def St.lit (st : St) (c : Operand) (b : Bool) : St :=
  match c with
  | .tmp t => { st with tmps := st.tmps.set t (.bool (some b) b) }
  | _ => st
def loopN : Nat → (St → (Exit → St → Option ρ) → Option ρ) → St → (Exit → St → Option ρ) → Option ρ
  | 0, _, _, _ => none
  | n + 1, f, st, K => f st fun e st' => match e with
    | .normal => loopN n f st' K
    | e => K e st'
def evCode (P : Program) (cal : Cal ρ) (qcal : QCal ρ) (ann : Nat → Option (Ann ρ)) : Code → St → (Exit → St → Option ρ) → Option ρ
  | .skip, st, K => K .normal st
  | .region _ ops draw, st, K => evRegion P cal qcal ops draw st (K .normal)
  | .seq x y, st, K => evCode P cal qcal ann x st fun e st' => match e with
    | .normal => evCode P cal qcal ann y st' K
    | e => K e st'
  | .cond c x y, st, K => match st.get c with
    | .bool (some b) _ => cond b (evCode P cal qcal ann x st K) (evCode P cal qcal ann y st K)
    | .bool none b => cond b (evCode P cal qcal ann x (st.lit c true) K) (evCode P cal qcal ann y (st.lit c false) K)
    | _ => none
  | .block id c, st, K => match ann id with
    | some an => an st K
    | none => evCode P cal qcal ann c st fun e st' => match e with
      | .exit id' => if id' = id then K .normal st' else K (.exit id') st'
      | e => K e st'
  | .loop c, st, K => loopN 300 (fun st K => evCode P cal qcal ann c st K) st K
  | .exit id, st, K => K (.exit id) st
  | .ret, st, K => K .ret st
  | .label _, st, K => K .normal st
  | .scope c, st, K => evCode P cal qcal ann c st fun e st' => match e with
    | .goto _ => none
    | e => K e st'
  | _, _, _ => none
def blocks : Code → List (Nat × Code)
  | .seq x y => blocks x ++ blocks y
  | .cond _ x y => blocks x ++ blocks y
  | .block id c => (id, c) :: blocks c
  | .loop c => blocks c
  | .scope c => blocks c
  | _ => []
theorem evCode_sound {P : Program} (hP : Callable P) {cal : Cal ρ} (hcal : ∀ f, CalAt P f (cal f)) {qcal : QCal ρ} (hq : ∀ f, QCalAt P f (qcal f)) {ann : Nat → Option (Ann ρ)} {x : Bool} {B : Base} {w0 : World} {r : ρ} :
    ∀ (c : Code) (_ : ∀ id an c', ann id = some an → (id, c') ∈ blocks c → AnnAt P x B w0 (.block id c') an) (st : St) (K : Exit → St → Option ρ), evCode P cal qcal ann c st K = some r →
      ∀ (M : List Place) (a : Act) (w : World) (Q : Exit → Act → World → Prop), Rel M st B w0 a w → (∀ e M' st' a' w', ExtO x M M' → K e st' = some r → Rel M' st' B w0 a' w' → Q e a' w') → c.wp P Q a w := by
  intro c
  induction c with
  | skip => intro _ st K h M a w Q hr hn; exact wp_skip (hn _ M st a w (ExtO.of (Ext.refl M)) h hr)
  | region id ops draw => intro _ st K h M a w Q hr hn; exact evRegion_sound hP hcal hq h hr fun M' st' a' w' hE => hn .normal M' st' a' w' (ExtO.of hE)
  | seq x y ihx ihy =>
    intro ha st K h M a w Q hr hn
    refine wp_seq (ihx (fun id an c' h1 h2 => ha id an c' h1 (by simp [blocks, h2])) st _ h M a w _ hr fun e M' st' a' w' hE hk hr' => ?_)
    cases e with
    | normal => exact ihy (fun id an c' h1 h2 => ha id an c' h1 (by simp [blocks, h2])) st' K hk M' a' w' Q hr' fun e M2 st2 a2 w2 hE2 => hn e M2 st2 a2 w2 (hE.trans hE2)
    | exit id => exact hn _ M' st' a' w' hE hk hr'
    | goto l => exact hn _ M' st' a' w' hE hk hr'
    | ret => exact hn _ M' st' a' w' hE hk hr'
    | panic ch => exact hn _ M' st' a' w' hE hk hr'
    | outgrown => exact hn _ M' st' a' w' hE hk hr'
  | cond c x y ihx ihy =>
    intro ha st K h M a w Q hr hn
    have hg := get_rel hr.tmps c
    unfold evCode at h
    have lit : ∀ b : Bool, a.eval c = .bool b → Rel M (st.lit c b) B w0 a w := by
      intro b hb
      cases c with
      | tmp t =>
        have h1 := hr.put (x := .bool (some b) b) (v := .bool b) (by simp [RelV, RelX]) (some t)
        simp only [Act.eval] at hb
        rw [← hb, put_self] at h1
        exact h1
      | _ => exact hr
    split at h
    · rename_i b z hst
      rw [hst] at hg
      obtain ⟨e, hl⟩ := relV_bool hg
      have := hl b rfl
      subst this
      cases z
      · exact wp_cond_false e (ihy (fun id an c' h1 h2 => ha id an c' h1 (by simp [blocks, h2])) st K h M a w Q hr hn)
      · exact wp_cond_true e (ihx (fun id an c' h1 h2 => ha id an c' h1 (by simp [blocks, h2])) st K h M a w Q hr hn)
    · rename_i b hst
      rw [hst] at hg
      obtain ⟨e, _⟩ := relV_bool hg
      cases b
      · exact wp_cond_false e (ihy (fun id an c' h1 h2 => ha id an c' h1 (by simp [blocks, h2])) _ K h M a w Q (lit _ e) hn)
      · exact wp_cond_true e (ihx (fun id an c' h1 h2 => ha id an c' h1 (by simp [blocks, h2])) _ K h M a w Q (lit _ e) hn)
    · cases h
  | block id c ih =>
    intro ha st K h M a w Q hr hn
    unfold evCode at h
    split at h
    · rename_i an han
      exact ha id an c han (by simp [blocks]) st K r h M a w Q hr hn
    · refine wp_block (ih (fun id' an c' h1 h2 => ha id' an c' h1 (by simp [blocks, h2])) st _ h M a w _ hr fun e M' st' a' w' hE hk hr' => ?_)
      cases e with
      | exit id' =>
        simp only at hk
        unfold Exit.inBlock
        split at hk
        · rename_i hid
          simp only [hid, if_true]
          exact hn _ M' st' a' w' hE hk hr'
        · rename_i hid
          simp only [hid, if_false]
          exact hn _ M' st' a' w' hE hk hr'
      | normal => exact hn _ M' st' a' w' hE hk hr'
      | goto l => exact hn _ M' st' a' w' hE hk hr'
      | ret => exact hn _ M' st' a' w' hE hk hr'
      | panic ch => exact hn _ M' st' a' w' hE hk hr'
      | outgrown => exact hn _ M' st' a' w' hE hk hr'
  | loop c ih =>
    intro ha st K h M a w Q hr hn
    unfold evCode at h
    refine wp_loop_ind (fun n a' w' => ∃ st' M', loopN n (fun st K => evCode P cal qcal ann c st K) st' K = some r ∧ ExtO x M M' ∧ Rel M' st' B w0 a' w') (n := 300) ⟨st, M, h, ExtO.of (Ext.refl M), hr⟩ ?_
    rintro n a1 w1 ⟨st1, M1, h1, hE1, hr1⟩
    cases n with
    | zero => cases h1
    | succ n =>
      unfold loopN at h1
      refine ih (fun id an c' h1 h2 => ha id an c' h1 (by simp [blocks, h2])) st1 _ h1 M1 a1 w1 _ hr1 fun e M' st' a' w' hE hk hr' => ?_
      cases e with
      | normal => exact ⟨n, by omega, st', M', hk, hE1.trans hE, hr'⟩
      | exit id => exact hn _ M' st' a' w' (hE1.trans hE) hk hr'
      | goto l => exact hn _ M' st' a' w' (hE1.trans hE) hk hr'
      | ret => exact hn _ M' st' a' w' (hE1.trans hE) hk hr'
      | panic ch => exact hn _ M' st' a' w' (hE1.trans hE) hk hr'
      | outgrown => exact hn _ M' st' a' w' (hE1.trans hE) hk hr'
  | exit id => intro _ st K h M a w Q hr hn; exact wp_exit (hn _ M st a w (ExtO.of (Ext.refl M)) h hr)
  | ret => intro _ st K h M a w Q hr hn; exact wp_ret (hn _ M st a w (ExtO.of (Ext.refl M)) h hr)
  | label l => intro _ st K h M a w Q hr hn; exact wp_label (hn _ M st a w (ExtO.of (Ext.refl M)) h hr)
  | scope c ih =>
    intro ha st K h M a w Q hr hn
    unfold evCode at h
    refine wp_scope_straight (ih (fun id' an c' h1 h2 => ha id' an c' h1 (by simp [blocks, h2])) st _ h M a w _ hr fun e M' st' a' w' hE hk hr' => ?_)
    cases e with
    | goto l => cases hk
    | exit id => exact hn _ M' st' a' w' hE hk hr'
    | normal => exact hn _ M' st' a' w' hE hk hr'
    | ret => exact hn _ M' st' a' w' hE hk hr'
    | panic ch => exact hn _ M' st' a' w' hE hk hr'
    | outgrown => exact hn _ M' st' a' w' hE hk hr'
  | _ => intro _ st K h; cases h
end Go.AE

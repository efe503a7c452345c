/- The framework AE, part 1: abstract values, abstract memory, and what it means that a world of the model is described by them. -/
import Derived.Calls
import Derived.Deep.Quiet
import Derived.KernelRfl
import Derived.Below
import Derived.Tactics
set_option linter.unusedVariables false
set_option linter.unusedSimpArgs false
namespace Go.AE
open Go Go.RowKit

/-- What is known of a slice: nothing; its capacity is its length; it is the whole of a row of the call's own; it is the whole of a row. -/
inductive CapK where
  | any | full | own | whole
  deriving DecidableEq

/-- The string of some bytes; the bytes of a string. -/
def mkS (l : List Int) : ByteArray := ⟨(l.map fun x => UInt8.ofNat x.toNat).toArray⟩
def bytesL (s : ByteArray) : List Int := s.data.toList.map fun b => (b.toNat : Int)

theorem u8_back {x : Int} (h : 0 ≤ x ∧ x ≤ 255) : ((UInt8.ofNat x.toNat).toNat : Int) = x := by
  rw [UInt8.toNat_ofNat']
  omega
theorem bytesL_mkS {l : List Int} (h : ∀ x ∈ l, 0 ≤ x ∧ x ≤ 255) : bytesL (mkS l) = l := by
  unfold bytesL mkS
  simp only [List.map_map]
  conv => rhs; rw [← List.map_id l]
  refine List.map_congr_left fun x hx => ?_
  have := h x hx
  simp only [Function.comp, id]
  exact u8_back this
theorem mkS_bytesL (s : ByteArray) : mkS (bytesL s) = s := by
  unfold bytesL mkS
  cases s with
  | mk d =>
    congr 1
    apply Array.ext'
    simp only [List.map_map]
    conv => rhs; rw [← List.map_id d.toList]
    refine List.map_congr_left fun x hx => ?_
    simp [Function.comp]
theorem bytesL_has (s : ByteArray) : ∀ x ∈ bytesL s, 0 ≤ x ∧ x ≤ 255 := by
  intro x hx
  obtain ⟨b, _, rfl⟩ := List.mem_map.1 hx
  have := b.toNat_lt
  omega
theorem mkS_size (l : List Int) : (mkS l).size = l.length := by simp [mkS, ByteArray.size]
theorem mkS_get (l : List Int) (i : Nat) (h : i < l.length) : (mkS l)[i]? = some (UInt8.ofNat (l.getD i 0).toNat) := by
  have h1 : i < (mkS l).size := by rw [mkS_size]; exact h
  rw [getElem?_pos (mkS l) i h1]
  simp only [mkS, ByteArray.getElem_eq_getElem_data, List.getElem_toArray, List.getElem_map, List.getD_eq_getElem?_getD]
  rw [List.getElem?_eq_getElem h]
  rfl

/-- Abstract values. 'is k n l': n cells of integers; 'str l': the string of bytes l. -/
inductive AV where
  | undef
  | int (k : IntKind) (lit : Option Int) (x : Int)
  | bool (lit : Option Bool) (x : Bool)
  | str (l : List Int)
  | nilp
  | ptr (b base : Nat) (dyn : Option Nat) (room span : Nat)
  | rptr (b off room : Nat)
  | sl (b off len sz : Nat) (c : CapK)
  | nils
  | fn (f : FuncId) (first cap : List AV)
  | nilf
  | agg (cs : List AV)
  | is (k : IntKind) (n : Nat) (l : List Int)
  | tup (vs : List AV)
  | iface (t : TypeId) (x : AV)
  | niface
  deriving Inhabited

/-- Where an abstract block lies: in which block, from where on, how many cells; how many cells the block has. 'nil': nowhere (a nil slice). -/
structure Place where
  nil : Bool
  blk : Nat
  off : Nat
  n : Nat
  size : Nat

mutual
/-- These cells (one, but for 'is') are described by the abstract value. -/
def RelX (M : List Place) : AV → List Value → Prop
  | .undef, a => ∃ v, a = [v]
  | .int k lit x, a => a = [.int k x] ∧ k.has x ∧ (∀ m, lit = some m → x = m)
  | .bool lit x, a => a = [.bool x] ∧ (∀ m, lit = some m → x = m)
  | .str l, a => a = [.string (mkS l)] ∧ ∀ x ∈ l, 0 ≤ x ∧ x ≤ 255
  | .nilp, a => a = [.pointer none]
  | .ptr b base dyn room span, a => ∃ pl, M[b]? = some pl ∧ pl.nil = false ∧ a = [.pointer (some ⟨pl.blk, pl.off + (base + dyn.getD 0), none⟩)] ∧ dyn.getD 0 + room ≤ span ∧ base + span ≤ pl.n
  | .rptr b off room, a => ∃ pl, M[b]? = some pl ∧ pl.nil = false ∧ a = [.pointer (some ⟨pl.blk, pl.off + off, none⟩)] ∧ off + room ≤ pl.n
  | .sl b off len sz c, a => ∃ pl A cap, M[b]? = some pl ∧ a = [.slice A len cap] ∧ off + len * sz ≤ pl.n ∧ len ≤ cap ∧
      (pl.nil = true → (c = .own → A = none) ∧ cap = 0) ∧ (pl.nil = false → A ≠ none ∧ (0 < len ∨ c = .own → A = some ⟨pl.blk, pl.off + off, none⟩)) ∧
      (c = .full → cap = len) ∧ (c = .own → off = 0 ∧ pl.off = 0 ∧ len * sz = pl.n ∧ cap * sz ≤ pl.size) ∧ (c = .whole → off = 0 ∧ len * sz = pl.n) ∧ IntKind.i64.has (len : Int)
  | .nils, a => a = [.slice none 0 0]
  | .fn f first cap, a => ∃ x y : Array Value, a = [.func (.func f) x y] ∧ RelL M first x.toList ∧ RelL M cap y.toList
  | .nilf, a => a = [.nilFunc]
  | .agg cs, a => ∃ vs : Array Value, a = [.agg vs] ∧ RelC M cs vs.toList
  | .is k n l, a => l.length = n ∧ a = l.map (.int k) ∧ ∀ x ∈ l, k.has x
  | .tup xs, a => ∃ vs : Array Value, a = [.tuple vs] ∧ RelL M xs vs.toList
  | .iface t x, a => ∃ y, a = [.iface t y] ∧ RelX M x [y]
  | .niface, a => a = [.nilIface]
/-- One value each. -/
def RelL (M : List Place) : List AV → List Value → Prop
  | [], vs => vs = []
  | x :: xs, vs => ∃ v r, vs = v :: r ∧ RelX M x [v] ∧ RelL M xs r
/-- The cells one behind the other. -/
def RelC (M : List Place) : List AV → List Value → Prop
  | [], vs => vs = []
  | x :: xs, vs => ∃ a r, vs = a ++ r ∧ RelX M x a ∧ RelC M xs r
end

abbrev RelV (M : List Place) (x : AV) (v : Value) : Prop := RelX M x [v]

/-- More places may be known. -/
def Ext (M M' : List Place) : Prop := ∀ (b : Nat) (pl : Place), M[b]? = some pl → M'[b]? = some pl

theorem Ext.refl (M : List Place) : Ext M M := fun _ _ h => h
theorem Ext.trans {A B C : List Place} (h : Ext A B) (k : Ext B C) : Ext A C := fun b pl e => k b pl (h b pl e)
theorem Ext.snoc (M : List Place) (l : List Place) : Ext M (M ++ l) := fun b pl e => by
  rw [List.getElem?_append_left]
  · exact e
  · exact (List.getElem?_eq_some_iff.1 e).1

mutual
theorem RelX.mono {M M' : List Place} (h : Ext M M') : ∀ (x : AV) (a : List Value), RelX M x a → RelX M' x a
  | .undef, a, r => by simpa only [RelX] using r
  | .int k lit x, a, r => by simpa only [RelX] using r
  | .bool lit x, a, r => by simpa only [RelX] using r
  | .str s, a, r => by simpa only [RelX] using r
  | .nilp, a, r => by simpa only [RelX] using r
  | .ptr b base dyn room span, a, r => by
    simp only [RelX] at r ⊢
    obtain ⟨pl, e, r⟩ := r
    exact ⟨pl, h _ _ e, r⟩
  | .rptr b off room, a, r => by
    simp only [RelX] at r ⊢
    obtain ⟨pl, e, r⟩ := r
    exact ⟨pl, h _ _ e, r⟩
  | .sl b off len sz c, a, r => by
    simp only [RelX] at r ⊢
    obtain ⟨pl, A, cap, e, r⟩ := r
    exact ⟨pl, A, cap, h _ _ e, r⟩
  | .nils, a, r => by simpa only [RelX] using r
  | .fn f first cap, a, r => by
    simp only [RelX] at r ⊢
    obtain ⟨x, y, e, r1, r2⟩ := r
    exact ⟨x, y, e, RelL.mono h _ _ r1, RelL.mono h _ _ r2⟩
  | .nilf, a, r => by simpa only [RelX] using r
  | .agg cs, a, r => by
    simp only [RelX] at r ⊢
    obtain ⟨x, e, r1⟩ := r
    exact ⟨x, e, RelC.mono h _ _ r1⟩
  | .is k n l, a, r => by simpa only [RelX] using r
  | .tup xs, a, r => by
    simp only [RelX] at r ⊢
    obtain ⟨x, e, r1⟩ := r
    exact ⟨x, e, RelL.mono h _ _ r1⟩
  | .iface t x, a, r => by
    simp only [RelX] at r ⊢
    obtain ⟨y, e, r1⟩ := r
    exact ⟨y, e, RelX.mono h _ _ r1⟩
  | .niface, a, r => by simpa only [RelX] using r
theorem RelL.mono {M M' : List Place} (h : Ext M M') : ∀ (xs : List AV) (a : List Value), RelL M xs a → RelL M' xs a
  | [], a, r => by simpa only [RelL] using r
  | x :: xs, a, r => by
    simp only [RelL] at r ⊢
    obtain ⟨v, t, e, r1, r2⟩ := r
    exact ⟨v, t, e, RelX.mono h _ _ r1, RelL.mono h _ _ r2⟩
theorem RelC.mono {M M' : List Place} (h : Ext M M') : ∀ (xs : List AV) (a : List Value), RelC M xs a → RelC M' xs a
  | [], a, r => by simpa only [RelC] using r
  | x :: xs, a, r => by
    simp only [RelC] at r ⊢
    obtain ⟨v, t, e, r1, r2⟩ := r
    exact ⟨v, t, e, RelX.mono h _ _ r1, RelC.mono h _ _ r2⟩
end

/-- What an abstract block holds: cells; or a row of integers, of any length. -/
inductive Cont where
  | segs (cs : List AV)
  | row (k : IntKind) (l : List Int)

/-- 'pin': which of the told places it is. -/
structure AObj where
  c : Cont
  own : Bool
  pin : Option Nat

/-- Which blocks may be written; which may be seen; the told places. -/
structure Base where
  w : Nat → Prop
  vis : Nat → Prop
  pin : Nat → Place → Prop

/-- All blocks from n on may be written. -/
def Base.at (n : Nat) : Base := ⟨fun k => n ≤ k, fun _ => True, fun _ _ => False⟩

/-- But for what may be written the world w' is as w was. -/
structure Beneath (B : Base) (w w' : World) : Prop where
  os : w'.os = w.os
  tape : w'.tape = w.tape
  output : w'.output = w.output
  size : w.heap.size ≤ w'.heap.size
  block : ∀ k, k < w.heap.size → ¬ B.w k → w'.heap[k]? = w.heap[k]?

theorem Beneath.refl (B : Base) (w : World) : Beneath B w w := ⟨rfl, rfl, rfl, Nat.le_refl _, fun _ _ _ => rfl⟩
theorem Beneath.trans {B : Base} {a b c : World} (h : Beneath B a b) (k : Beneath B b c) : Beneath B a c :=
  ⟨k.os.trans h.os, k.tape.trans h.tape, k.output.trans h.output, Nat.le_trans h.size k.size, fun i hi hw => (k.block i (Nat.lt_of_lt_of_le hi h.size) hw).trans (h.block i hi hw)⟩
theorem Beneath.of {B : Base} {w w' : World} (h : Below w.heap.size w w') : Beneath B w w' := ⟨h.os, h.tape, h.output, h.size, fun k hk _ => h.block k hk⟩
theorem Beneath.below {w w' : World} (h : Beneath (Base.at w.heap.size) w w') : Below w.heap.size w w' := ⟨h.os, h.tape, h.output, h.size, fun k hk => h.block k hk (fun h2 => Nat.lt_irrefl _ (Nat.lt_of_lt_of_le hk h2))⟩

abbrev Heap := List (Option AObj)

def RelO (M : List Place) : Cont → List Value → Prop
  | .segs cs, a => RelC M cs a
  | .row k l, a => a = l.map (.int k) ∧ ∀ x ∈ l, k.has x

theorem RelO.mono {M M' : List Place} (h : Ext M M') {c : Cont} {a : List Value} (r : RelO M c a) : RelO M' c a := by
  cases c with
  | segs cs => exact RelC.mono h _ _ r
  | row k l => exact r

/-- One block of memory is as the abstract one says. -/
def ObjOk (M : List Place) (o : AObj) (pl : Place) (B : Base) (w : World) : Prop :=
  (pl.nil = true ∧ pl.n = 0 ∧ RelO M o.c []) ∨
  (pl.nil = false ∧ ∃ cs el fz, w.heap[pl.blk]? = some (.cells cs el fz) ∧ cs.size = pl.size ∧ pl.off + pl.n ≤ pl.size ∧
    RelO M o.c ((cs.toList.drop pl.off).take pl.n) ∧ (o.own = true → fz = (0, 0) ∧ pl.off = 0 ∧ B.w pl.blk))

/-- The memory is as the abstract one says; what is the call's own lies from block B on, and apart. -/
structure RelH (M : List Place) (H : Heap) (B : Base) (w : World) : Prop where
  len : H.length = M.length
  base : ∀ k, w.heap.size ≤ k → B.w k ∧ B.vis k
  obj : ∀ (i : Nat) (o : AObj), H[i]? = some (some o) → ∃ pl, M[i]? = some pl ∧ ObjOk M o pl B w
  sep : ∀ (i j : Nat) (oi oj : AObj) (pi pj : Place), H[i]? = some (some oi) → H[j]? = some (some oj) → M[i]? = some pi → M[j]? = some pj → i ≠ j →
    oi.own = true → pi.nil = false → pj.nil = false → pi.blk ≠ pj.blk
  pin : ∀ (i : Nat) (o : AObj) (pl : Place) (k : Nat), H[i]? = some (some o) → M[i]? = some pl → o.pin = some k → B.pin k pl
  vis : ∀ (i : Nat) (o : AObj) (pl : Place), H[i]? = some (some o) → M[i]? = some pl → pl.nil = false → B.vis pl.blk

structure St where
  tmps : List AV
  heap : Heap

/-- The slots are as the abstract ones say. -/
def RelT (M : List Place) (ts : List AV) (a : Array Value) : Prop := ts.length = a.size ∧ ∀ t, RelV M (ts.getD t .undef) (a.getD t undef)

/-- The whole state. 'w0': the world in which the call began. -/
structure Rel (M : List Place) (st : St) (B : Base) (w0 : World) (a : Act) (w : World) : Prop where
  tmps : RelT M st.tmps a.tmps
  defers : a.defers = []
  heap : RelH M st.heap B w
  below : Beneath B w0 w

theorem RelT.mono {M M' : List Place} (h : Ext M M') {ts : List AV} {a : Array Value} (r : RelT M ts a) : RelT M' ts a :=
  ⟨r.1, fun t => RelX.mono h _ _ (r.2 t)⟩

theorem relV_undef (M : List Place) (v : Value) : RelV M .undef v := by simp [RelV, RelX]

theorem RelT.put {M : List Place} {ts : List AV} {a : Array Value} (r : RelT M ts a) {x : AV} {v : Value} (hx : RelV M x v) (d : Nat) :
    RelT M (ts.set d x) (a.setIfInBounds d v) := by
  refine ⟨by simp [r.1], fun t => ?_⟩
  have ht := r.2 t
  by_cases hd : d = t
  · subst hd
    by_cases hl : d < ts.length
    · have hl' : d < a.size := by rw [← r.1]; exact hl
      simpa [List.getD_eq_getElem?_getD, hl, hl'] using hx
    · have hl' : ¬ d < a.size := by rw [← r.1]; exact hl
      simp only [List.getD_eq_getElem?_getD] at *
      rw [List.getElem?_eq_none (by simpa using hl)]
      exact relV_undef _ _
  · have e1 : (ts.set d x).getD t .undef = ts.getD t .undef := by simp [List.getD_eq_getElem?_getD, List.getElem?_set_ne hd]
    have e2 : (a.setIfInBounds d v).getD t undef = a.getD t undef := by simp [Array.getElem?_setIfInBounds_ne hd]
    rw [e1, e2]
    exact ht

/-- A slot's new value. -/
def St.put (st : St) (dst : Option Tmp) (x : AV) : St :=
  match dst with
  | some d => { st with tmps := st.tmps.set d x }
  | none => st

theorem Rel.put {M : List Place} {st : St} {B : Base} {w0 : World} {a : Act} {w : World} (r : Rel M st B w0 a w) {x : AV} {v : Value} (hx : RelV M x v) (dst : Option Tmp) :
    Rel M (st.put dst x) B w0 (a.put dst v) w := by
  cases dst with
  | none => exact r
  | some d => exact ⟨r.tmps.put hx d, r.defers, r.heap, r.below⟩

/-- Another memory. -/
theorem Rel.withHeap {M M' : List Place} {st : St} {B : Base} {w0 : World} {a : Act} {w w' : World} {H' : Heap} (r : Rel M st B w0 a w) (hM : Ext M M') (hH : RelH M' H' B w') (hb : Beneath B w w') :
    Rel M' ⟨st.tmps, H'⟩ B w0 a w' :=
  ⟨r.tmps.mono hM, r.defers, hH, r.below.trans hb⟩

/-- Old blocks unchanged: the memory still fits. -/
theorem RelH.below {M : List Place} {H : Heap} {B : Base} {w w' : World} (r : RelH M H B w) (h : Below w.heap.size w w') : RelH M H B w' := by
  refine ⟨r.len, fun k hk => r.base k (Nat.le_trans h.size hk), fun i o ho => ?_, r.sep, r.pin, r.vis⟩
  obtain ⟨pl, hp, hok⟩ := r.obj i o ho
  refine ⟨pl, hp, ?_⟩
  rcases hok with hok | ⟨hn, cs, el, fz, hb, rest⟩
  · exact .inl hok
  · refine .inr ⟨hn, cs, el, fz, ?_, rest⟩
    rw [h.block _ ((Array.getElem?_eq_some_iff.1 hb).1)]
    exact hb

end Go.AE

/- The framework AE, part 1: abstract values, abstract memory, and what it means that a world of the model is described by them. -/
import Derived.Calls
import Derived.Deep.Quiet
import Derived.KernelRfl
import Derived.Below
import Derived.Tactics
set_option linter.unusedVariables false
set_option linter.unusedSimpArgs false
namespace Go.AE
open Go Go.RowKit

/-- What is known of a slice: nothing; its capacity is its length; it is the whole of a row of the call's own; it is the whole of a row. -/
inductive CapK where
  | any | full | own | whole
  deriving DecidableEq

/-- The string of some bytes; the bytes of a string. -/
def mkS (l : List Int) : ByteArray := ⟨(l.map fun x => UInt8.ofNat x.toNat).toArray⟩
def bytesL (s : ByteArray) : List Int := s.data.toList.map fun b => (b.toNat : Int)

theorem u8_back {x : Int} (h : 0 ≤ x ∧ x ≤ 255) : ((UInt8.ofNat x.toNat).toNat : Int) = x := by
  rw [UInt8.toNat_ofNat']
  omega
theorem bytesL_mkS {l : List Int} (h : ∀ x ∈ l, 0 ≤ x ∧ x ≤ 255) : bytesL (mkS l) = l := by
  unfold bytesL mkS
  simp only [List.map_map]
  conv => rhs; rw [← List.map_id l]
  refine List.map_congr_left fun x hx => ?_
  have := h x hx
  simp only [Function.comp, id]
  exact u8_back this
theorem mkS_bytesL (s : ByteArray) : mkS (bytesL s) = s := by
  unfold bytesL mkS
  cases s with
  | mk d =>
    congr 1
    apply Array.ext'
    simp only [List.map_map]
    conv => rhs; rw [← List.map_id d.toList]
    refine List.map_congr_left fun x hx => ?_
    simp [Function.comp]
theorem bytesL_has (s : ByteArray) : ∀ x ∈ bytesL s, 0 ≤ x ∧ x ≤ 255 := by
  intro x hx
  obtain ⟨b, _, rfl⟩ := List.mem_map.1 hx
  have := b.toNat_lt
  omega
theorem mkS_size (l : List Int) : (mkS l).size = l.length := by simp [mkS, ByteArray.size]
theorem mkS_get (l : List Int) (i : Nat) (h : i < l.length) : (mkS l)[i]? = some (UInt8.ofNat (l.getD i 0).toNat) := by
  have h1 : i < (mkS l).size := by rw [mkS_size]; exact h
  rw [getElem?_pos (mkS l) i h1]
  simp only [mkS, ByteArray.getElem_eq_getElem_data, List.getElem_toArray, List.getElem_map, List.getD_eq_getElem?_getD]
  rw [List.getElem?_eq_getElem h]
  rfl

/-- Kinds of elements of deep rows: slices of integers; two strings; an image (two sides, and a row); slices of elements. -/
inductive EK where
  | row (k : IntKind) (sz : Nat)
  | pair
  | img (k : IntKind) (sz : Nat)
  | deep (e : EK)
  deriving DecidableEq

@[reducible] def EK.den : EK → Type
  | .row _ _ => List Int
  | .pair => List Int × List Int
  | .img _ _ => Int × Int × List Int
  | .deep e => List e.den
/-- How many cells an element has. -/
def EK.w : EK → Nat
  | .row _ _ => 1
  | .pair => 2
  | .img _ _ => 3
  | .deep _ => 1
def EK.dflt : (e : EK) → e.den
  | .row _ _ => ([] : List Int)
  | .pair => ([], [])
  | .img _ _ => (0, 0, [])
  | .deep _ => []

/-- The maps that are told: 0: the numbers of formats, by formats and kinds of files. -/
def codesT : List (Int × Int × Int) := [(1, 1, 71), (2, 1, 74), (3, 1, 77), (4, 1, 80), (5, 1, 83), (6, 1, 98), (1, 2, 33776), (2, 2, 33778), (3, 2, 33779), (4, 2, 36283), (5, 2, 36285), (6, 2, 36492), (7, 2, 36196), (8, 2, 37492), (9, 2, 37494), (10, 2, 37496), (11, 2, 37488), (12, 2, 37490)]
def mapT : Nat → List (Value × Value)
  | 0 => codesT.map fun x => (.agg #[.int .i64 x.1, .int .i64 x.2.1], .int .i64 x.2.2)
  | _ => []

/-- Elements, with their kind; one element. -/
structure EKs where
  e : EK
  l : List e.den
structure EK1 where
  e : EK
  x : e.den

/-- Abstract values. 'is k n l': n cells of integers; 'str l': the string of bytes l. 'fsl', 'dsl': slices of memory that stays as it is: of integers, of elements; 'fref', 'dref': pointers into such; 'mapc': a map that stays as it is. 'mp', 'itr': just this map; just this iterator. -/
inductive AV where
  | undef
  | int (k : IntKind) (lit : Option Int) (x : Int)
  | bool (lit : Option Bool) (x : Bool)
  | str (l : List Int)
  | nilp
  | ptr (b base : Nat) (dyn : Option Nat) (room span : Nat)
  | rptr (b off room : Nat)
  | sl (b off len sz : Nat) (c : CapK)
  | nils
  | fn (f : FuncId) (first cap : List AV)
  | nilf
  | agg (cs : List AV)
  | is (k : IntKind) (n : Nat) (l : List Int)
  | tup (vs : List AV)
  | iface (t : TypeId) (x : AV)
  | niface
  | fsl (k : IntKind) (sz : Nat) (l : List Int)
  | dsl (d : EKs)
  | fref (k : IntKind) (l : List Int) (off room : Nat)
  | dref (d : EK1) (off : Nat)
  | mapc (i : Nat)
  | mp (b : Nat)
  | itr (b : Nat)
  deriving Inhabited

/-- Where an abstract block lies: in which block, from where on, how many cells; how many cells the block has. 'nil': nowhere (a nil slice). -/
structure Place where
  nil : Bool
  blk : Nat
  off : Nat
  n : Nat
  size : Nat
  fz : Nat → Option Obj

/-- No block stays as it is. -/
abbrev noFz : Nat → Option Obj := fun _ => none

/-- A block that stays as it is. -/
def FzAt (M : List Place) (k : Nat) (ob : Obj) : Prop := ∃ (i : Nat) (pl : Place), M[i]? = some pl ∧ pl.fz k = some ob

/-- A slice of integers that stay as they are. -/
def RowFz (M : List Place) (k : IntKind) (sz : Nat) (l : List Int) (v : Value) : Prop :=
  ∃ A len cap, v = .slice A len cap ∧ len ≤ cap ∧ l.length = len * sz ∧ IntKind.i64.has (len : Int) ∧ (∀ x ∈ l, k.has x) ∧
    (cap = 0 ∨ ∃ blk off cs el fz, A = some ⟨blk, off, none⟩ ∧ FzAt M blk (.cells cs el fz) ∧ off + len * sz ≤ cs.size ∧ (cs.toList.drop off).take (len * sz) = l.map (.int k))

/-- A slice of elements that stay as they are. -/
def SlFz (M : List Place) (w : Nat) {α : Type} (R : α → List Value → Prop) (l : List α) (v : Value) : Prop :=
  ∃ A len cap, v = .slice A len cap ∧ len ≤ cap ∧ l.length = len ∧ IntKind.i64.has (len : Int) ∧
    (len = 0 ∨ ∃ blk off cs el fz, A = some ⟨blk, off, none⟩ ∧ FzAt M blk (.cells cs el fz) ∧ off + len * w ≤ cs.size ∧ ∀ (i : Nat) (x : α), l[i]? = some x → R x ((cs.toList.drop (off + i * w)).take w))

def IsBytes (l : List Int) : Prop := ∀ x ∈ l, 0 ≤ x ∧ x ≤ 255

/-- The cells of an element. -/
def EK.rel (M : List Place) : (e : EK) → e.den → List Value → Prop
  | .row k sz, l, a => ∃ v, a = [v] ∧ RowFz M k sz l v
  | .pair, x, a => a = [.string (mkS x.1), .string (mkS x.2)] ∧ IsBytes x.1 ∧ IsBytes x.2
  | .img k sz, x, a => ∃ v, a = [.int .i64 x.1, .int .i64 x.2.1, v] ∧ IntKind.i64.has x.1 ∧ IntKind.i64.has x.2.1 ∧ RowFz M k sz x.2.2 v
  | .deep e, l, a => ∃ v, a = [v] ∧ SlFz M e.w (e.rel M) l v

mutual
/-- These cells (one, but for 'is') are described by the abstract value. -/
def RelX (M : List Place) : AV → List Value → Prop
  | .undef, a => ∃ v, a = [v]
  | .int k lit x, a => a = [.int k x] ∧ k.has x ∧ (∀ m, lit = some m → x = m)
  | .bool lit x, a => a = [.bool x] ∧ (∀ m, lit = some m → x = m)
  | .str l, a => a = [.string (mkS l)] ∧ (∀ x ∈ l, 0 ≤ x ∧ x ≤ 255) ∧ IntKind.i64.has (l.length : Int)
  | .nilp, a => a = [.pointer none]
  | .ptr b base dyn room span, a => ∃ pl, M[b]? = some pl ∧ pl.nil = false ∧ a = [.pointer (some ⟨pl.blk, pl.off + (base + dyn.getD 0), none⟩)] ∧ dyn.getD 0 + room ≤ span ∧ base + span ≤ pl.n
  | .rptr b off room, a => ∃ pl, M[b]? = some pl ∧ pl.nil = false ∧ a = [.pointer (some ⟨pl.blk, pl.off + off, none⟩)] ∧ off + room ≤ pl.n
  | .sl b off len sz c, a => ∃ pl A cap, M[b]? = some pl ∧ a = [.slice A len cap] ∧ off + len * sz ≤ pl.n ∧ len ≤ cap ∧
      (pl.nil = true → (c = .own → A = none) ∧ cap = 0) ∧ (pl.nil = false → A ≠ none ∧ (0 < len ∨ c = .own → A = some ⟨pl.blk, pl.off + off, none⟩)) ∧
      (c = .full → cap = len) ∧ (c = .own → off = 0 ∧ pl.off = 0 ∧ len * sz = pl.n ∧ cap * sz ≤ pl.size) ∧ (c = .whole → off = 0 ∧ len * sz = pl.n) ∧ IntKind.i64.has (len : Int)
  | .nils, a => a = [.slice none 0 0]
  | .fn f first cap, a => ∃ x y : Array Value, a = [.func (.func f) x y] ∧ RelL M first x.toList ∧ RelL M cap y.toList
  | .nilf, a => a = [.nilFunc]
  | .agg cs, a => ∃ vs : Array Value, a = [.agg vs] ∧ RelC M cs vs.toList
  | .is k n l, a => l.length = n ∧ a = l.map (.int k) ∧ ∀ x ∈ l, k.has x
  | .tup xs, a => ∃ vs : Array Value, a = [.tuple vs] ∧ RelL M xs vs.toList
  | .iface t x, a => ∃ y, a = [.iface t y] ∧ RelX M x [y]
  | .niface, a => a = [.nilIface]
  | .fsl k sz l, a => ∃ v, a = [v] ∧ RowFz M k sz l v
  | .dsl d, a => ∃ v, a = [v] ∧ SlFz M d.e.w (d.e.rel M) d.l v
  | .fref k l off room, a => ∃ blk o cs el fz, a = [.pointer (some ⟨blk, o + off, none⟩)] ∧ FzAt M blk (.cells cs el fz) ∧ off + room ≤ l.length ∧ o + l.length ≤ cs.size ∧ (cs.toList.drop o).take l.length = l.map (.int k) ∧ ∀ x ∈ l, k.has x
  | .dref d off, a => ∃ blk o cs el fz, a = [.pointer (some ⟨blk, o + off, none⟩)] ∧ FzAt M blk (.cells cs el fz) ∧ o + d.e.w ≤ cs.size ∧ d.e.rel M d.x ((cs.toList.drop o).take d.e.w)
  | .mapc i, a => ∃ r es clock, a = [.map (some r)] ∧ FzAt M r (.map es clock) ∧ (es.toList.map fun e => (e.key, e.val)).Perm (mapT i)
  | .mp b, a => a = [.map (some b)]
  | .itr b, a => a = [.pointer (some ⟨b, 0, none⟩)]
/-- One value each. -/
def RelL (M : List Place) : List AV → List Value → Prop
  | [], vs => vs = []
  | x :: xs, vs => ∃ v r, vs = v :: r ∧ RelX M x [v] ∧ RelL M xs r
/-- The cells one behind the other. -/
def RelC (M : List Place) : List AV → List Value → Prop
  | [], vs => vs = []
  | x :: xs, vs => ∃ a r, vs = a ++ r ∧ RelX M x a ∧ RelC M xs r
end

abbrev RelV (M : List Place) (x : AV) (v : Value) : Prop := RelX M x [v]

/-- More places may be known. -/
def Ext (M M' : List Place) : Prop := ∀ (b : Nat) (pl : Place), M[b]? = some pl → M'[b]? = some pl

theorem Ext.refl (M : List Place) : Ext M M := fun _ _ h => h
theorem Ext.trans {A B C : List Place} (h : Ext A B) (k : Ext B C) : Ext A C := fun b pl e => k b pl (h b pl e)
theorem Ext.snoc (M : List Place) (l : List Place) : Ext M (M ++ l) := fun b pl e => by
  rw [List.getElem?_append_left]
  · exact e
  · exact (List.getElem?_eq_some_iff.1 e).1

/-- What stays as it is in the one stays so in the other. -/
def FzSub (M M' : List Place) : Prop := ∀ (k : Nat) (ob : Obj), FzAt M k ob → FzAt M' k ob
theorem Ext.fz {M M' : List Place} (h : Ext M M') : FzSub M M' := fun k ob ⟨i, pl, a, b⟩ => ⟨i, pl, h i pl a, b⟩
theorem FzSub.refl (M : List Place) : FzSub M M := fun _ _ h => h
theorem FzSub.trans {A B C : List Place} (h : FzSub A B) (k : FzSub B C) : FzSub A C := fun i o e => k i o (h i o e)

theorem RowFz.mono {M M' : List Place} (h : FzSub M M') {k : IntKind} {sz : Nat} {l : List Int} {v : Value} (r : RowFz M k sz l v) : RowFz M' k sz l v := by
  obtain ⟨A, len, cap, e, h1, h2, h3, h4, h5⟩ := r
  refine ⟨A, len, cap, e, h1, h2, h3, h4, ?_⟩
  rcases h5 with h5 | ⟨blk, off, cs, el, fz, a, b, c⟩
  · exact .inl h5
  · exact .inr ⟨blk, off, cs, el, fz, a, h _ _ b, c⟩

theorem SlFz.mono {M M' : List Place} (h : FzSub M M') {w : Nat} {α : Type} {R R' : α → List Value → Prop} (hR : ∀ x a, R x a → R' x a) {l : List α} {v : Value} (r : SlFz M w R l v) : SlFz M' w R' l v := by
  obtain ⟨A, len, cap, e, h1, h2, h3, h5⟩ := r
  refine ⟨A, len, cap, e, h1, h2, h3, ?_⟩
  rcases h5 with h5 | ⟨blk, off, cs, el, fz, a, b, c, d⟩
  · exact .inl h5
  · exact .inr ⟨blk, off, cs, el, fz, a, h _ _ b, c, fun i x hx => hR _ _ (d i x hx)⟩

theorem EK.rel_mono {M M' : List Place} (h : FzSub M M') : ∀ (e : EK) (x : e.den) (a : List Value), e.rel M x a → e.rel M' x a
  | .row k sz, x, a, r => by
    obtain ⟨v, e, r⟩ := r
    exact ⟨v, e, RowFz.mono h r⟩
  | .pair, x, a, r => r
  | .img k sz, x, a, r => by
    obtain ⟨v, e, h1, h2, r⟩ := r
    exact ⟨v, e, h1, h2, RowFz.mono h r⟩
  | .deep e, x, a, r => by
    obtain ⟨v, e', r⟩ := r
    exact ⟨v, e', SlFz.mono h (fun x a => EK.rel_mono h e x a) r⟩

mutual
theorem RelX.mono {M M' : List Place} (h : Ext M M') : ∀ (x : AV) (a : List Value), RelX M x a → RelX M' x a
  | .undef, a, r => by simpa only [RelX] using r
  | .int k lit x, a, r => by simpa only [RelX] using r
  | .bool lit x, a, r => by simpa only [RelX] using r
  | .str s, a, r => by simpa only [RelX] using r
  | .nilp, a, r => by simpa only [RelX] using r
  | .ptr b base dyn room span, a, r => by
    simp only [RelX] at r ⊢
    obtain ⟨pl, e, r⟩ := r
    exact ⟨pl, h _ _ e, r⟩
  | .rptr b off room, a, r => by
    simp only [RelX] at r ⊢
    obtain ⟨pl, e, r⟩ := r
    exact ⟨pl, h _ _ e, r⟩
  | .sl b off len sz c, a, r => by
    simp only [RelX] at r ⊢
    obtain ⟨pl, A, cap, e, r⟩ := r
    exact ⟨pl, A, cap, h _ _ e, r⟩
  | .nils, a, r => by simpa only [RelX] using r
  | .fn f first cap, a, r => by
    simp only [RelX] at r ⊢
    obtain ⟨x, y, e, r1, r2⟩ := r
    exact ⟨x, y, e, RelL.mono h _ _ r1, RelL.mono h _ _ r2⟩
  | .nilf, a, r => by simpa only [RelX] using r
  | .agg cs, a, r => by
    simp only [RelX] at r ⊢
    obtain ⟨x, e, r1⟩ := r
    exact ⟨x, e, RelC.mono h _ _ r1⟩
  | .is k n l, a, r => by simpa only [RelX] using r
  | .tup xs, a, r => by
    simp only [RelX] at r ⊢
    obtain ⟨x, e, r1⟩ := r
    exact ⟨x, e, RelL.mono h _ _ r1⟩
  | .iface t x, a, r => by
    simp only [RelX] at r ⊢
    obtain ⟨y, e, r1⟩ := r
    exact ⟨y, e, RelX.mono h _ _ r1⟩
  | .niface, a, r => by simpa only [RelX] using r
  | .fsl k sz l, a, r => by
    simp only [RelX] at r ⊢
    obtain ⟨v, e, r⟩ := r
    exact ⟨v, e, RowFz.mono h.fz r⟩
  | .dsl d, a, r => by
    simp only [RelX] at r ⊢
    obtain ⟨v, e', r⟩ := r
    exact ⟨v, e', SlFz.mono h.fz (fun x a => EK.rel_mono h.fz d.e x a) r⟩
  | .fref k l off room, a, r => by
    simp only [RelX] at r ⊢
    obtain ⟨blk, o, cs, el, fz, h1, h2, r⟩ := r
    exact ⟨blk, o, cs, el, fz, h1, h.fz _ _ h2, r⟩
  | .dref d off, a, r => by
    simp only [RelX] at r ⊢
    obtain ⟨blk, o, cs, el, fz, h1, h2, h3, r⟩ := r
    exact ⟨blk, o, cs, el, fz, h1, h.fz _ _ h2, h3, EK.rel_mono h.fz d.e d.x _ r⟩
  | .mapc i, a, r => by
    simp only [RelX] at r ⊢
    obtain ⟨r0, es, clock, h1, h2, h3⟩ := r
    exact ⟨r0, es, clock, h1, h.fz _ _ h2, h3⟩
  | .mp b, a, r => by simpa only [RelX] using r
  | .itr b, a, r => by simpa only [RelX] using r
theorem RelL.mono {M M' : List Place} (h : Ext M M') : ∀ (xs : List AV) (a : List Value), RelL M xs a → RelL M' xs a
  | [], a, r => by simpa only [RelL] using r
  | x :: xs, a, r => by
    simp only [RelL] at r ⊢
    obtain ⟨v, t, e, r1, r2⟩ := r
    exact ⟨v, t, e, RelX.mono h _ _ r1, RelL.mono h _ _ r2⟩
theorem RelC.mono {M M' : List Place} (h : Ext M M') : ∀ (xs : List AV) (a : List Value), RelC M xs a → RelC M' xs a
  | [], a, r => by simpa only [RelC] using r
  | x :: xs, a, r => by
    simp only [RelC] at r ⊢
    obtain ⟨v, t, e, r1, r2⟩ := r
    exact ⟨v, t, e, RelX.mono h _ _ r1, RelC.mono h _ _ r2⟩
end

/-- What an abstract block holds: cells; or a row of integers, of any length. -/
inductive Cont where
  | segs (cs : List AV)
  | row (k : IntKind) (l : List Int)
  | drow (d : EKs)

/-- 'pin': which of the told places it is. -/
structure AObj where
  c : Cont
  own : Bool
  pin : Option Nat

/-- Which blocks may be written; which may be seen; the told places; which blocks stayed as they were from the beginning. -/
structure Base where
  w : Nat → Prop
  vis : Nat → Prop
  pin : Nat → Place → Prop
  f : Nat → Prop

/-- All blocks from n on may be written. -/
def Base.at (n : Nat) : Base := ⟨fun k => n ≤ k, fun _ => True, fun _ _ => False, fun k => k < n⟩

/-- But for what may be written the world w' is as w was. -/
structure Beneath (B : Base) (w w' : World) : Prop where
  os : w'.os = w.os
  tape : w'.tape = w.tape
  output : w'.output = w.output
  size : w.heap.size ≤ w'.heap.size
  block : ∀ k, k < w.heap.size → ¬ B.w k → w'.heap[k]? = w.heap[k]?

theorem Beneath.refl (B : Base) (w : World) : Beneath B w w := ⟨rfl, rfl, rfl, Nat.le_refl _, fun _ _ _ => rfl⟩
theorem Beneath.trans {B : Base} {a b c : World} (h : Beneath B a b) (k : Beneath B b c) : Beneath B a c :=
  ⟨k.os.trans h.os, k.tape.trans h.tape, k.output.trans h.output, Nat.le_trans h.size k.size, fun i hi hw => (k.block i (Nat.lt_of_lt_of_le hi h.size) hw).trans (h.block i hi hw)⟩
theorem Beneath.of {B : Base} {w w' : World} (h : Below w.heap.size w w') : Beneath B w w' := ⟨h.os, h.tape, h.output, h.size, fun k hk _ => h.block k hk⟩
theorem Beneath.below {w w' : World} (h : Beneath (Base.at w.heap.size) w w') : Below w.heap.size w w' := ⟨h.os, h.tape, h.output, h.size, fun k hk => h.block k hk (fun h2 => Nat.lt_irrefl _ (Nat.lt_of_lt_of_le hk h2))⟩

abbrev Heap := List (Option AObj)

def RelO (M : List Place) : Cont → List Value → Prop
  | .segs cs, a => RelC M cs a
  | .row k l, a => a = l.map (.int k) ∧ ∀ x ∈ l, k.has x
  | .drow d, a => a.length = d.l.length * d.e.w ∧ ∀ (i : Nat) (x : d.e.den), d.l[i]? = some x → d.e.rel M x ((a.drop (i * d.e.w)).take d.e.w)

theorem RelO.mono {M M' : List Place} (h : Ext M M') {c : Cont} {a : List Value} (r : RelO M c a) : RelO M' c a := by
  cases c with
  | segs cs => exact RelC.mono h _ _ r
  | row k l => exact r
  | drow d => exact ⟨r.1, fun i x hx => EK.rel_mono h.fz d.e x _ (r.2 i x hx)⟩

/-- One block of memory is as the abstract one says. -/
def ObjOk (M : List Place) (o : AObj) (pl : Place) (B : Base) (w : World) : Prop :=
  (pl.nil = true ∧ pl.n = 0 ∧ RelO M o.c []) ∨
  (pl.nil = false ∧ ∃ cs el fz, w.heap[pl.blk]? = some (.cells cs el fz) ∧ cs.size = pl.size ∧ pl.off + pl.n ≤ pl.size ∧
    RelO M o.c ((cs.toList.drop pl.off).take pl.n) ∧ (o.own = true → fz = (0, 0) ∧ pl.off = 0 ∧ B.w pl.blk))

/-- The memory is as the abstract one says; what is the call's own lies from block B on, and apart. -/
structure RelH (M : List Place) (H : Heap) (B : Base) (w : World) : Prop where
  len : H.length = M.length
  base : ∀ k, w.heap.size ≤ k → B.w k ∧ B.vis k
  obj : ∀ (i : Nat) (o : AObj), H[i]? = some (some o) → ∃ pl, M[i]? = some pl ∧ ObjOk M o pl B w
  sep : ∀ (i j : Nat) (oi oj : AObj) (pi pj : Place), H[i]? = some (some oi) → H[j]? = some (some oj) → M[i]? = some pi → M[j]? = some pj → i ≠ j →
    oi.own = true → pi.nil = false → pj.nil = false → pi.blk ≠ pj.blk
  pin : ∀ (i : Nat) (o : AObj) (pl : Place) (k : Nat), H[i]? = some (some o) → M[i]? = some pl → o.pin = some k → B.pin k pl
  vis : ∀ (i : Nat) (o : AObj) (pl : Place), H[i]? = some (some o) → M[i]? = some pl → pl.nil = false → B.vis pl.blk
  fz : ∀ (k : Nat) (ob : Obj), FzAt M k ob → w.heap[k]? = some ob ∧ B.vis k ∧ (B.w k ∨ B.f k)
  fo : ∀ (i : Nat) (o : AObj) (pl : Place), H[i]? = some (some o) → M[i]? = some pl → o.own = true → pl.nil = false → ¬ B.f pl.blk ∧ ∀ ob, ¬ FzAt M pl.blk ob
  bf : ∀ k, w.heap.size ≤ k → ¬ B.f k

structure St where
  tmps : List AV
  heap : Heap

/-- The slots are as the abstract ones say. -/
def RelT (M : List Place) (ts : List AV) (a : Array Value) : Prop := ts.length = a.size ∧ ∀ t, RelV M (ts.getD t .undef) (a.getD t undef)

/-- The whole state. 'w0': the world in which the call began. -/
structure Rel (M : List Place) (st : St) (B : Base) (w0 : World) (a : Act) (w : World) : Prop where
  tmps : RelT M st.tmps a.tmps
  defers : a.defers = []
  heap : RelH M st.heap B w
  below : Beneath B w0 w

theorem RelT.mono {M M' : List Place} (h : Ext M M') {ts : List AV} {a : Array Value} (r : RelT M ts a) : RelT M' ts a :=
  ⟨r.1, fun t => RelX.mono h _ _ (r.2 t)⟩

theorem relV_undef (M : List Place) (v : Value) : RelV M .undef v := by simp [RelV, RelX]

theorem RelT.put {M : List Place} {ts : List AV} {a : Array Value} (r : RelT M ts a) {x : AV} {v : Value} (hx : RelV M x v) (d : Nat) :
    RelT M (ts.set d x) (a.setIfInBounds d v) := by
  refine ⟨by simp [r.1], fun t => ?_⟩
  have ht := r.2 t
  by_cases hd : d = t
  · subst hd
    by_cases hl : d < ts.length
    · have hl' : d < a.size := by rw [← r.1]; exact hl
      simpa [List.getD_eq_getElem?_getD, hl, hl'] using hx
    · have hl' : ¬ d < a.size := by rw [← r.1]; exact hl
      simp only [List.getD_eq_getElem?_getD] at *
      rw [List.getElem?_eq_none (by simpa using hl)]
      exact relV_undef _ _
  · have e1 : (ts.set d x).getD t .undef = ts.getD t .undef := by simp [List.getD_eq_getElem?_getD, List.getElem?_set_ne hd]
    have e2 : (a.setIfInBounds d v).getD t undef = a.getD t undef := by simp [Array.getElem?_setIfInBounds_ne hd]
    rw [e1, e2]
    exact ht

/-- A slot's new value. -/
def St.put (st : St) (dst : Option Tmp) (x : AV) : St :=
  match dst with
  | some d => { st with tmps := st.tmps.set d x }
  | none => st

theorem Rel.put {M : List Place} {st : St} {B : Base} {w0 : World} {a : Act} {w : World} (r : Rel M st B w0 a w) {x : AV} {v : Value} (hx : RelV M x v) (dst : Option Tmp) :
    Rel M (st.put dst x) B w0 (a.put dst v) w := by
  cases dst with
  | none => exact r
  | some d => exact ⟨r.tmps.put hx d, r.defers, r.heap, r.below⟩

/-- Another memory. -/
theorem Rel.withHeap {M M' : List Place} {st : St} {B : Base} {w0 : World} {a : Act} {w w' : World} {H' : Heap} (r : Rel M st B w0 a w) (hM : Ext M M') (hH : RelH M' H' B w') (hb : Beneath B w w') :
    Rel M' ⟨st.tmps, H'⟩ B w0 a w' :=
  ⟨r.tmps.mono hM, r.defers, hH, r.below.trans hb⟩

/-- Old blocks unchanged: the memory still fits. -/
theorem RelH.below {M : List Place} {H : Heap} {B : Base} {w w' : World} (r : RelH M H B w) (h : Below w.heap.size w w') : RelH M H B w' := by
  refine ⟨r.len, fun k hk => r.base k (Nat.le_trans h.size hk), fun i o ho => ?_, r.sep, r.pin, r.vis, fun k ob hk => ?_, r.fo, fun k hk => r.bf k (Nat.le_trans h.size hk)⟩
  obtain ⟨pl, hp, hok⟩ := r.obj i o ho
  refine ⟨pl, hp, ?_⟩
  rcases hok with hok | ⟨hn, cs, el, fz, hb, rest⟩
  · exact .inl hok
  · refine .inr ⟨hn, cs, el, fz, ?_, rest⟩
    rw [h.block _ ((Array.getElem?_eq_some_iff.1 hb).1)]
    exact hb
  · obtain ⟨h1, h2⟩ := r.fz k ob hk
    exact ⟨(h.block _ ((Array.getElem?_eq_some_iff.1 h1).1)).trans h1, h2⟩

theorem FzAt.nil {k : Nat} {ob : Obj} : ¬ FzAt [] k ob := fun ⟨i, pl, h, _⟩ => by simp at h
/-- A place more that holds no block still. -/
theorem FzAt.snoc {M : List Place} {p : Place} (hp : p.fz = noFz) {k : Nat} {ob : Obj} (h : FzAt (M ++ [p]) k ob) : FzAt M k ob := by
  obtain ⟨i, pl, h1, h2⟩ := h
  by_cases hi : i < M.length
  · rw [List.getElem?_append_left hi] at h1
    exact ⟨i, pl, h1, h2⟩
  · rw [List.getElem?_append_right (by omega)] at h1
    have : i - M.length = 0 := by
      have := (List.getElem?_eq_some_iff.1 h1).1
      simp at this
      omega
    rw [this] at h1
    simp at h1
    subst h1
    rw [hp] at h2
    cases h2
theorem FzAt.snocS {M : List Place} {p : Place} (hp : ∀ k ob, p.fz k = some ob → FzAt M k ob) {k : Nat} {ob : Obj} (h : FzAt (M ++ [p]) k ob) : FzAt M k ob := by
  obtain ⟨i, pl, h1, h2⟩ := h
  by_cases hi : i < M.length
  · rw [List.getElem?_append_left hi] at h1
    exact ⟨i, pl, h1, h2⟩
  · rw [List.getElem?_append_right (by omega)] at h1
    have : i - M.length = 0 := by
      have := (List.getElem?_eq_some_iff.1 h1).1
      simp at this
      omega
    rw [this] at h1
    simp at h1
    subst h1
    exact hp k ob h2
theorem FzAt.append {M N : List Place} {k : Nat} {ob : Obj} (h : FzAt (M ++ N) k ob) : FzAt M k ob ∨ FzAt N k ob := by
  obtain ⟨i, pl, h1, h2⟩ := h
  by_cases hi : i < M.length
  · rw [List.getElem?_append_left hi] at h1
    exact .inl ⟨i, pl, h1, h2⟩
  · rw [List.getElem?_append_right (by omega)] at h1
    exact .inr ⟨_, pl, h1, h2⟩
theorem FzAt.left {M : List Place} (N : List Place) {k : Nat} {ob : Obj} (h : FzAt M k ob) : FzAt (M ++ N) k ob := (Ext.snoc M N).fz k ob h
theorem FzAt.right (M : List Place) {N : List Place} {k : Nat} {ob : Obj} (h : FzAt N k ob) : FzAt (M ++ N) k ob := by
  obtain ⟨i, pl, h1, h2⟩ := h
  exact ⟨M.length + i, pl, by rw [List.getElem?_append_right (by omega)]; simpa using h1, h2⟩
/-- What stays as it is lies in memory. -/
theorem RelH.fz_lt {M : List Place} {H : Heap} {B : Base} {w : World} (r : RelH M H B w) {k : Nat} {ob : Obj} (h : FzAt M k ob) : k < w.heap.size := (Array.getElem?_eq_some_iff.1 (r.fz k ob h).1).1

end Go.AE

/- A part of the proof, put together of my texts: Fw1, Fw2, Fw3, Fw4, Fw5, Fw6, Fw7, Fw8, Fw9, Fw10, Fw11. -/
import Derived.Calls
import Derived.Deep.Quiet
import Derived.KernelRfl
import Derived.Below
import Derived.Tactics
import Derived.Laws.CopyRow
import Derived.Laws.Cells
import Derived.Laws.AppendOwn
import Derived.Laws.StructEq
import Derived.ChangeKeysEq
set_option linter.unusedVariables false
set_option linter.unusedSimpArgs false
namespace Go.AE
open Go Go.RowKit
inductive CapK where
  | any | full | own | whole
  deriving DecidableEq
def mkS (l : List Int) : ByteArray := ⟨(l.map fun x => UInt8.ofNat x.toNat).toArray⟩
def bytesL (s : ByteArray) : List Int := s.data.toList.map fun b => (b.toNat : Int)
theorem u8_back {x : Int} (h : 0 ≤ x ∧ x ≤ 255) : ((UInt8.ofNat x.toNat).toNat : Int) = x := by
  rw [UInt8.toNat_ofNat']
  omega
theorem bytesL_mkS {l : List Int} (h : ∀ x ∈ l, 0 ≤ x ∧ x ≤ 255) : bytesL (mkS l) = l := by
  unfold bytesL mkS
  simp only [List.map_map]
  conv => rhs; rw [← List.map_id l]
  refine List.map_congr_left fun x hx => ?_
  have := h x hx
  simp only [Function.comp, id]
  exact u8_back this
theorem mkS_bytesL (s : ByteArray) : mkS (bytesL s) = s := by
  unfold bytesL mkS
  cases s with
  | mk d =>
    congr 1
    apply Array.ext'
    simp only [List.map_map]
    conv => rhs; rw [← List.map_id d.toList]
    refine List.map_congr_left fun x hx => ?_
    simp [Function.comp]
theorem bytesL_has (s : ByteArray) : ∀ x ∈ bytesL s, 0 ≤ x ∧ x ≤ 255 := by
  intro x hx
  obtain ⟨b, _, rfl⟩ := List.mem_map.1 hx
  have := b.toNat_lt
  omega
theorem mkS_size (l : List Int) : (mkS l).size = l.length := by simp [mkS, ByteArray.size]
theorem mkS_get (l : List Int) (i : Nat) (h : i < l.length) : (mkS l)[i]? = some (UInt8.ofNat (l.getD i 0).toNat) := by
  have h1 : i < (mkS l).size := by rw [mkS_size]; exact h
  rw [getElem?_pos (mkS l) i h1]
  simp only [mkS, ByteArray.getElem_eq_getElem_data, List.getElem_toArray, List.getElem_map, List.getD_eq_getElem?_getD]
  rw [List.getElem?_eq_getElem h]
  rfl
inductive EK where
  | row (k : IntKind) (sz : Nat)
  | pair
  | img (k : IntKind) (sz : Nat)
  | deep (e : EK)
  deriving DecidableEq
@[reducible] def EK.den : EK → Type
  | .row _ _ => List Int
  | .pair => List Int × List Int
  | .img _ _ => Int × Int × List Int
  | .deep e => List e.den
def EK.w : EK → Nat
  | .row _ _ => 1
  | .pair => 2
  | .img _ _ => 3
  | .deep _ => 1
def EK.dflt : (e : EK) → e.den
  | .row _ _ => ([] : List Int)
  | .pair => ([], [])
  | .img _ _ => (0, 0, [])
  | .deep _ => []
def codesT : List (Int × Int × Int) := [(1, 1, 71), (2, 1, 74), (3, 1, 77), (4, 1, 80), (5, 1, 83), (6, 1, 98), (1, 2, 33776), (2, 2, 33778), (3, 2, 33779), (4, 2, 36283), (5, 2, 36285), (6, 2, 36492), (7, 2, 36196), (8, 2, 37492), (9, 2, 37494), (10, 2, 37496), (11, 2, 37488), (12, 2, 37490)]
def mapT : Nat → List (Value × Value)
  | 0 => codesT.map fun x => (.agg #[.int .i64 x.1, .int .i64 x.2.1], .int .i64 x.2.2)
  | _ => []
structure EKs where
  e : EK
  l : List e.den
structure EK1 where
  e : EK
  x : e.den
inductive AV where
  | undef
  | int (k : IntKind) (lit : Option Int) (x : Int)
  | bool (lit : Option Bool) (x : Bool)
  | str (l : List Int)
  | nilp
  | ptr (b base : Nat) (dyn : Option Nat) (room span : Nat)
  | rptr (b off room : Nat)
  | sl (b off len sz : Nat) (c : CapK)
  | nils
  | fn (f : FuncId) (first cap : List AV)
  | nilf
  | agg (cs : List AV)
  | is (k : IntKind) (n : Nat) (l : List Int)
  | tup (vs : List AV)
  | iface (t : TypeId) (x : AV)
  | niface
  | fsl (k : IntKind) (sz : Nat) (l : List Int)
  | dsl (d : EKs)
  | fref (k : IntKind) (l : List Int) (off room : Nat)
  | dref (d : EK1) (off : Nat)
  | mapc (i : Nat)
  | mp (b : Nat)
  | itr (b : Nat)
  | yld (l : Nat)
  deriving Inhabited
structure Place where
  nil : Bool
  blk : Nat
  off : Nat
  n : Nat
  size : Nat
  fz : Nat → Option Obj
abbrev noFz : Nat → Option Obj := fun _ => none
def FzAt (M : List Place) (k : Nat) (ob : Obj) : Prop := ∃ (i : Nat) (pl : Place), M[i]? = some pl ∧ pl.fz k = some ob
def RowFz (M : List Place) (k : IntKind) (sz : Nat) (l : List Int) (v : Value) : Prop :=
  ∃ A len cap, v = .slice A len cap ∧ len ≤ cap ∧ l.length = len * sz ∧ IntKind.i64.has (len : Int) ∧ (∀ x ∈ l, k.has x) ∧
    (cap = 0 ∨ ∃ blk off cs el fz, A = some ⟨blk, off, none⟩ ∧ FzAt M blk (.cells cs el fz) ∧ off + len * sz ≤ cs.size ∧ (cs.toList.drop off).take (len * sz) = l.map (.int k))
def SlFz (M : List Place) (w : Nat) {α : Type} (R : α → List Value → Prop) (l : List α) (v : Value) : Prop :=
  ∃ A len cap, v = .slice A len cap ∧ len ≤ cap ∧ l.length = len ∧ IntKind.i64.has (len : Int) ∧
    (len = 0 ∨ ∃ blk off cs el fz, A = some ⟨blk, off, none⟩ ∧ FzAt M blk (.cells cs el fz) ∧ off + len * w ≤ cs.size ∧ ∀ (i : Nat) (x : α), l[i]? = some x → R x ((cs.toList.drop (off + i * w)).take w))
def IsBytes (l : List Int) : Prop := ∀ x ∈ l, 0 ≤ x ∧ x ≤ 255
def EK.rel (M : List Place) : (e : EK) → e.den → List Value → Prop
  | .row k sz, l, a => ∃ v, a = [v] ∧ RowFz M k sz l v
  | .pair, x, a => a = [.string (mkS x.1), .string (mkS x.2)] ∧ (IsBytes x.1 ∧ IsBytes x.2) ∧ IntKind.i64.has (x.1.length : Int) ∧ IntKind.i64.has (x.2.length : Int)
  | .img k sz, x, a => ∃ v, a = [.int .i64 x.1, .int .i64 x.2.1, v] ∧ IntKind.i64.has x.1 ∧ IntKind.i64.has x.2.1 ∧ RowFz M k sz x.2.2 v
  | .deep e, l, a => ∃ v, a = [v] ∧ SlFz M e.w (e.rel M) l v
mutual
def RelX (M : List Place) : AV → List Value → Prop
  | .undef, a => ∃ v, a = [v]
  | .int k lit x, a => a = [.int k x] ∧ k.has x ∧ (∀ m, lit = some m → x = m)
  | .bool lit x, a => a = [.bool x] ∧ (∀ m, lit = some m → x = m)
  | .str l, a => a = [.string (mkS l)] ∧ (∀ x ∈ l, 0 ≤ x ∧ x ≤ 255) ∧ IntKind.i64.has (l.length : Int)
  | .nilp, a => a = [.pointer none]
  | .ptr b base dyn room span, a => ∃ pl, M[b]? = some pl ∧ pl.nil = false ∧ a = [.pointer (some ⟨pl.blk, pl.off + (base + dyn.getD 0), none⟩)] ∧ dyn.getD 0 + room ≤ span ∧ base + span ≤ pl.n
  | .rptr b off room, a => ∃ pl, M[b]? = some pl ∧ pl.nil = false ∧ a = [.pointer (some ⟨pl.blk, pl.off + off, none⟩)] ∧ off + room ≤ pl.n
  | .sl b off len sz c, a => ∃ pl A cap, M[b]? = some pl ∧ a = [.slice A len cap] ∧ off + len * sz ≤ pl.n ∧ len ≤ cap ∧
      (pl.nil = true → (c = .own → A = none) ∧ cap = 0) ∧ (pl.nil = false → A ≠ none ∧ (0 < len ∨ c = .own → A = some ⟨pl.blk, pl.off + off, none⟩)) ∧
      (c = .full → cap = len) ∧ (c = .own → off = 0 ∧ pl.off = 0 ∧ len * sz = pl.n ∧ cap * sz ≤ pl.size) ∧ (c = .whole → off = 0 ∧ len * sz = pl.n) ∧ IntKind.i64.has (len : Int)
  | .nils, a => a = [.slice none 0 0]
  | .fn f first cap, a => ∃ x y : Array Value, a = [.func (.func f) x y] ∧ RelL M first x.toList ∧ RelL M cap y.toList
  | .nilf, a => a = [.nilFunc]
  | .agg cs, a => ∃ vs : Array Value, a = [.agg vs] ∧ RelC M cs vs.toList
  | .is k n l, a => l.length = n ∧ a = l.map (.int k) ∧ ∀ x ∈ l, k.has x
  | .tup xs, a => ∃ vs : Array Value, a = [.tuple vs] ∧ RelL M xs vs.toList
  | .iface t x, a => ∃ y, a = [.iface t y] ∧ RelX M x [y]
  | .niface, a => a = [.nilIface]
  | .fsl k sz l, a => ∃ v, a = [v] ∧ RowFz M k sz l v
  | .dsl d, a => ∃ v, a = [v] ∧ SlFz M d.e.w (d.e.rel M) d.l v
  | .fref k l off room, a => ∃ blk o cs el fz, a = [.pointer (some ⟨blk, o + off, none⟩)] ∧ FzAt M blk (.cells cs el fz) ∧ off + room ≤ l.length ∧ o + l.length ≤ cs.size ∧ (cs.toList.drop o).take l.length = l.map (.int k) ∧ ∀ x ∈ l, k.has x
  | .dref d off, a => ∃ blk o cs el fz, a = [.pointer (some ⟨blk, o + off, none⟩)] ∧ FzAt M blk (.cells cs el fz) ∧ o + d.e.w ≤ cs.size ∧ d.e.rel M d.x ((cs.toList.drop o).take d.e.w)
  | .mapc i, a => ∃ r es clock, a = [.map (some r)] ∧ FzAt M r (.map es clock) ∧ (es.toList.map fun e => (e.key, e.val)).Perm (mapT i)
  | .mp b, a => a = [.map (some b)]
  | .itr b, a => a = [.pointer (some ⟨b, 0, none⟩)]
  | .yld l, a => a = [.func (.yield l) #[] #[]]
def RelL (M : List Place) : List AV → List Value → Prop
  | [], vs => vs = []
  | x :: xs, vs => ∃ v r, vs = v :: r ∧ RelX M x [v] ∧ RelL M xs r
def RelC (M : List Place) : List AV → List Value → Prop
  | [], vs => vs = []
  | x :: xs, vs => ∃ a r, vs = a ++ r ∧ RelX M x a ∧ RelC M xs r
end
abbrev RelV (M : List Place) (x : AV) (v : Value) : Prop := RelX M x [v]
def Ext (M M' : List Place) : Prop := ∀ (b : Nat) (pl : Place), M[b]? = some pl → M'[b]? = some pl
theorem Ext.refl (M : List Place) : Ext M M := fun _ _ h => h
theorem Ext.trans {A B C : List Place} (h : Ext A B) (k : Ext B C) : Ext A C := fun b pl e => k b pl (h b pl e)
theorem Ext.snoc (M : List Place) (l : List Place) : Ext M (M ++ l) := fun b pl e => by
  rw [List.getElem?_append_left]
  · exact e
  · exact (List.getElem?_eq_some_iff.1 e).1
def FzSub (M M' : List Place) : Prop := ∀ (k : Nat) (ob : Obj), FzAt M k ob → FzAt M' k ob
theorem Ext.fz {M M' : List Place} (h : Ext M M') : FzSub M M' := fun k ob ⟨i, pl, a, b⟩ => ⟨i, pl, h i pl a, b⟩
theorem FzSub.refl (M : List Place) : FzSub M M := fun _ _ h => h
theorem FzSub.trans {A B C : List Place} (h : FzSub A B) (k : FzSub B C) : FzSub A C := fun i o e => k i o (h i o e)
theorem RowFz.mono {M M' : List Place} (h : FzSub M M') {k : IntKind} {sz : Nat} {l : List Int} {v : Value} (r : RowFz M k sz l v) : RowFz M' k sz l v := by
  obtain ⟨A, len, cap, e, h1, h2, h3, h4, h5⟩ := r
  refine ⟨A, len, cap, e, h1, h2, h3, h4, ?_⟩
  rcases h5 with h5 | ⟨blk, off, cs, el, fz, a, b, c⟩
  · exact .inl h5
  · exact .inr ⟨blk, off, cs, el, fz, a, h _ _ b, c⟩
theorem SlFz.mono {M M' : List Place} (h : FzSub M M') {w : Nat} {α : Type} {R R' : α → List Value → Prop} (hR : ∀ x a, R x a → R' x a) {l : List α} {v : Value} (r : SlFz M w R l v) : SlFz M' w R' l v := by
  obtain ⟨A, len, cap, e, h1, h2, h3, h5⟩ := r
  refine ⟨A, len, cap, e, h1, h2, h3, ?_⟩
  rcases h5 with h5 | ⟨blk, off, cs, el, fz, a, b, c, d⟩
  · exact .inl h5
  · exact .inr ⟨blk, off, cs, el, fz, a, h _ _ b, c, fun i x hx => hR _ _ (d i x hx)⟩
theorem EK.rel_mono {M M' : List Place} (h : FzSub M M') : ∀ (e : EK) (x : e.den) (a : List Value), e.rel M x a → e.rel M' x a
  | .row k sz, x, a, r => by
    obtain ⟨v, e, r⟩ := r
    exact ⟨v, e, RowFz.mono h r⟩
  | .pair, x, a, r => r
  | .img k sz, x, a, r => by
    obtain ⟨v, e, h1, h2, r⟩ := r
    exact ⟨v, e, h1, h2, RowFz.mono h r⟩
  | .deep e, x, a, r => by
    obtain ⟨v, e', r⟩ := r
    exact ⟨v, e', SlFz.mono h (fun x a => EK.rel_mono h e x a) r⟩
mutual
theorem RelX.mono {M M' : List Place} (h : Ext M M') : ∀ (x : AV) (a : List Value), RelX M x a → RelX M' x a
  | .undef, a, r => by simpa only [RelX] using r
  | .int k lit x, a, r => by simpa only [RelX] using r
  | .bool lit x, a, r => by simpa only [RelX] using r
  | .str s, a, r => by simpa only [RelX] using r
  | .nilp, a, r => by simpa only [RelX] using r
  | .ptr b base dyn room span, a, r => by
    simp only [RelX] at r ⊢
    obtain ⟨pl, e, r⟩ := r
    exact ⟨pl, h _ _ e, r⟩
  | .rptr b off room, a, r => by
    simp only [RelX] at r ⊢
    obtain ⟨pl, e, r⟩ := r
    exact ⟨pl, h _ _ e, r⟩
  | .sl b off len sz c, a, r => by
    simp only [RelX] at r ⊢
    obtain ⟨pl, A, cap, e, r⟩ := r
    exact ⟨pl, A, cap, h _ _ e, r⟩
  | .nils, a, r => by simpa only [RelX] using r
  | .fn f first cap, a, r => by
    simp only [RelX] at r ⊢
    obtain ⟨x, y, e, r1, r2⟩ := r
    exact ⟨x, y, e, RelL.mono h _ _ r1, RelL.mono h _ _ r2⟩
  | .nilf, a, r => by simpa only [RelX] using r
  | .agg cs, a, r => by
    simp only [RelX] at r ⊢
    obtain ⟨x, e, r1⟩ := r
    exact ⟨x, e, RelC.mono h _ _ r1⟩
  | .is k n l, a, r => by simpa only [RelX] using r
  | .tup xs, a, r => by
    simp only [RelX] at r ⊢
    obtain ⟨x, e, r1⟩ := r
    exact ⟨x, e, RelL.mono h _ _ r1⟩
  | .iface t x, a, r => by
    simp only [RelX] at r ⊢
    obtain ⟨y, e, r1⟩ := r
    exact ⟨y, e, RelX.mono h _ _ r1⟩
  | .niface, a, r => by simpa only [RelX] using r
  | .fsl k sz l, a, r => by
    simp only [RelX] at r ⊢
    obtain ⟨v, e, r⟩ := r
    exact ⟨v, e, RowFz.mono h.fz r⟩
  | .dsl d, a, r => by
    simp only [RelX] at r ⊢
    obtain ⟨v, e', r⟩ := r
    exact ⟨v, e', SlFz.mono h.fz (fun x a => EK.rel_mono h.fz d.e x a) r⟩
  | .fref k l off room, a, r => by
    simp only [RelX] at r ⊢
    obtain ⟨blk, o, cs, el, fz, h1, h2, r⟩ := r
    exact ⟨blk, o, cs, el, fz, h1, h.fz _ _ h2, r⟩
  | .dref d off, a, r => by
    simp only [RelX] at r ⊢
    obtain ⟨blk, o, cs, el, fz, h1, h2, h3, r⟩ := r
    exact ⟨blk, o, cs, el, fz, h1, h.fz _ _ h2, h3, EK.rel_mono h.fz d.e d.x _ r⟩
  | .mapc i, a, r => by
    simp only [RelX] at r ⊢
    obtain ⟨r0, es, clock, h1, h2, h3⟩ := r
    exact ⟨r0, es, clock, h1, h.fz _ _ h2, h3⟩
  | .mp b, a, r => by simpa only [RelX] using r
  | .itr b, a, r => by simpa only [RelX] using r
  | .yld l, a, r => by simpa only [RelX] using r
theorem RelL.mono {M M' : List Place} (h : Ext M M') : ∀ (xs : List AV) (a : List Value), RelL M xs a → RelL M' xs a
  | [], a, r => by simpa only [RelL] using r
  | x :: xs, a, r => by
    simp only [RelL] at r ⊢
    obtain ⟨v, t, e, r1, r2⟩ := r
    exact ⟨v, t, e, RelX.mono h _ _ r1, RelL.mono h _ _ r2⟩
theorem RelC.mono {M M' : List Place} (h : Ext M M') : ∀ (xs : List AV) (a : List Value), RelC M xs a → RelC M' xs a
  | [], a, r => by simpa only [RelC] using r
  | x :: xs, a, r => by
    simp only [RelC] at r ⊢
    obtain ⟨v, t, e, r1, r2⟩ := r
    exact ⟨v, t, e, RelX.mono h _ _ r1, RelC.mono h _ _ r2⟩
end
inductive Cont where
  | segs (cs : List AV)
  | row (k : IntKind) (l : List Int)
  | drow (d : EKs)
structure AObj where
  c : Cont
  own : Bool
  pin : Option Nat
structure Base where
  w : Nat → Prop
  vis : Nat → Prop
  pin : Nat → Place → Prop
  f : Nat → Prop
  ds : List Deferred
def Base.at (n : Nat) : Base := ⟨fun k => n ≤ k, fun _ => True, fun _ _ => False, fun k => k < n, []⟩
structure Beneath (B : Base) (w w' : World) : Prop where
  os : w'.os = w.os
  tape : w'.tape = w.tape
  output : w'.output = w.output
  size : w.heap.size ≤ w'.heap.size
  block : ∀ k, k < w.heap.size → ¬ B.w k → w'.heap[k]? = w.heap[k]?
theorem Beneath.refl (B : Base) (w : World) : Beneath B w w := ⟨rfl, rfl, rfl, Nat.le_refl _, fun _ _ _ => rfl⟩
theorem Beneath.trans {B : Base} {a b c : World} (h : Beneath B a b) (k : Beneath B b c) : Beneath B a c :=
  ⟨k.os.trans h.os, k.tape.trans h.tape, k.output.trans h.output, Nat.le_trans h.size k.size, fun i hi hw => (k.block i (Nat.lt_of_lt_of_le hi h.size) hw).trans (h.block i hi hw)⟩
theorem Beneath.of {B : Base} {w w' : World} (h : Below w.heap.size w w') : Beneath B w w' := ⟨h.os, h.tape, h.output, h.size, fun k hk _ => h.block k hk⟩
theorem Beneath.below {w w' : World} (h : Beneath (Base.at w.heap.size) w w') : Below w.heap.size w w' := ⟨h.os, h.tape, h.output, h.size, fun k hk => h.block k hk (fun h2 => Nat.lt_irrefl _ (Nat.lt_of_lt_of_le hk h2))⟩
abbrev Heap := List (Option AObj)
def RelO (M : List Place) : Cont → List Value → Prop
  | .segs cs, a => RelC M cs a
  | .row k l, a => a = l.map (.int k) ∧ ∀ x ∈ l, k.has x
  | .drow d, a => a.length = d.l.length * d.e.w ∧ ∀ (i : Nat) (x : d.e.den), d.l[i]? = some x → d.e.rel M x ((a.drop (i * d.e.w)).take d.e.w)
theorem RelO.mono {M M' : List Place} (h : Ext M M') {c : Cont} {a : List Value} (r : RelO M c a) : RelO M' c a := by
  cases c with
  | segs cs => exact RelC.mono h _ _ r
  | row k l => exact r
  | drow d => exact ⟨r.1, fun i x hx => EK.rel_mono h.fz d.e x _ (r.2 i x hx)⟩
def FzOk (fz : Nat × Nat) (n : Nat) : Prop := fz = (0, 0) ∨ n ≤ fz.1
def ObjOk (M : List Place) (o : AObj) (pl : Place) (B : Base) (w : World) : Prop :=
  (pl.nil = true ∧ pl.n = 0 ∧ RelO M o.c []) ∨
  (pl.nil = false ∧ ∃ cs el fz, w.heap[pl.blk]? = some (.cells cs el fz) ∧ cs.size = pl.size ∧ pl.off + pl.n ≤ pl.size ∧
    RelO M o.c ((cs.toList.drop pl.off).take pl.n) ∧ (o.own = true → FzOk fz cs.size ∧ pl.off = 0 ∧ B.w pl.blk))
structure RelH (M : List Place) (H : Heap) (B : Base) (w : World) : Prop where
  len : H.length = M.length
  base : ∀ k, w.heap.size ≤ k → B.w k ∧ B.vis k
  obj : ∀ (i : Nat) (o : AObj), H[i]? = some (some o) → ∃ pl, M[i]? = some pl ∧ ObjOk M o pl B w
  sep : ∀ (i j : Nat) (oi oj : AObj) (pi pj : Place), H[i]? = some (some oi) → H[j]? = some (some oj) → M[i]? = some pi → M[j]? = some pj → i ≠ j →
    oi.own = true → pi.nil = false → pj.nil = false → pi.blk ≠ pj.blk
  pin : ∀ (i : Nat) (o : AObj) (pl : Place) (k : Nat), H[i]? = some (some o) → M[i]? = some pl → o.pin = some k → B.pin k pl
  vis : ∀ (i : Nat) (o : AObj) (pl : Place), H[i]? = some (some o) → M[i]? = some pl → pl.nil = false → B.vis pl.blk
  fz : ∀ (k : Nat) (ob : Obj), FzAt M k ob → w.heap[k]? = some ob ∧ B.vis k ∧ (B.w k ∨ B.f k)
  fo : ∀ (i : Nat) (o : AObj) (pl : Place), H[i]? = some (some o) → M[i]? = some pl → o.own = true → pl.nil = false → ¬ B.f pl.blk ∧ ∀ ob, ¬ FzAt M pl.blk ob
  bf : ∀ k, w.heap.size ≤ k → ¬ B.f k
structure St where
  tmps : List AV
  heap : Heap
def RelT (M : List Place) (ts : List AV) (a : Array Value) : Prop := ts.length = a.size ∧ ∀ t, RelV M (ts.getD t .undef) (a.getD t undef)
structure Rel (M : List Place) (st : St) (B : Base) (w0 : World) (a : Act) (w : World) : Prop where
  tmps : RelT M st.tmps a.tmps
  defers : a.defers = B.ds
  heap : RelH M st.heap B w
  below : Beneath B w0 w
theorem RelT.mono {M M' : List Place} (h : Ext M M') {ts : List AV} {a : Array Value} (r : RelT M ts a) : RelT M' ts a :=
  ⟨r.1, fun t => RelX.mono h _ _ (r.2 t)⟩
theorem relV_undef (M : List Place) (v : Value) : RelV M .undef v := by simp [RelV, RelX]
theorem RelT.put {M : List Place} {ts : List AV} {a : Array Value} (r : RelT M ts a) {x : AV} {v : Value} (hx : RelV M x v) (d : Nat) :
    RelT M (ts.set d x) (a.setIfInBounds d v) := by
  refine ⟨by simp [r.1], fun t => ?_⟩
  have ht := r.2 t
  by_cases hd : d = t
  · subst hd
    by_cases hl : d < ts.length
    · have hl' : d < a.size := by rw [← r.1]; exact hl
      simpa [List.getD_eq_getElem?_getD, hl, hl'] using hx
    · have hl' : ¬ d < a.size := by rw [← r.1]; exact hl
      simp only [List.getD_eq_getElem?_getD] at *
      rw [List.getElem?_eq_none (by simpa using hl)]
      exact relV_undef _ _
  · have e1 : (ts.set d x).getD t .undef = ts.getD t .undef := by simp [List.getD_eq_getElem?_getD, List.getElem?_set_ne hd]
    have e2 : (a.setIfInBounds d v).getD t undef = a.getD t undef := by simp [Array.getElem?_setIfInBounds_ne hd]
    rw [e1, e2]
    exact ht
def St.put (st : St) (dst : Option Tmp) (x : AV) : St :=
  match dst with
  | some d => { st with tmps := st.tmps.set d x }
  | none => st
theorem Rel.put {M : List Place} {st : St} {B : Base} {w0 : World} {a : Act} {w : World} (r : Rel M st B w0 a w) {x : AV} {v : Value} (hx : RelV M x v) (dst : Option Tmp) :
    Rel M (st.put dst x) B w0 (a.put dst v) w := by
  cases dst with
  | none => exact r
  | some d => exact ⟨r.tmps.put hx d, r.defers, r.heap, r.below⟩
theorem Rel.withHeap {M M' : List Place} {st : St} {B : Base} {w0 : World} {a : Act} {w w' : World} {H' : Heap} (r : Rel M st B w0 a w) (hM : Ext M M') (hH : RelH M' H' B w') (hb : Beneath B w w') :
    Rel M' ⟨st.tmps, H'⟩ B w0 a w' :=
  ⟨r.tmps.mono hM, r.defers, hH, r.below.trans hb⟩
theorem RelH.below {M : List Place} {H : Heap} {B : Base} {w w' : World} (r : RelH M H B w) (h : Below w.heap.size w w') : RelH M H B w' := by
  refine ⟨r.len, fun k hk => r.base k (Nat.le_trans h.size hk), fun i o ho => ?_, r.sep, r.pin, r.vis, fun k ob hk => ?_, r.fo, fun k hk => r.bf k (Nat.le_trans h.size hk)⟩
  obtain ⟨pl, hp, hok⟩ := r.obj i o ho
  refine ⟨pl, hp, ?_⟩
  rcases hok with hok | ⟨hn, cs, el, fz, hb, rest⟩
  · exact .inl hok
  · refine .inr ⟨hn, cs, el, fz, ?_, rest⟩
    rw [h.block _ ((Array.getElem?_eq_some_iff.1 hb).1)]
    exact hb
  · obtain ⟨h1, h2⟩ := r.fz k ob hk
    exact ⟨(h.block _ ((Array.getElem?_eq_some_iff.1 h1).1)).trans h1, h2⟩
theorem FzAt.nil {k : Nat} {ob : Obj} : ¬ FzAt [] k ob := fun ⟨i, pl, h, _⟩ => by simp at h
theorem FzAt.snoc {M : List Place} {p : Place} (hp : p.fz = noFz) {k : Nat} {ob : Obj} (h : FzAt (M ++ [p]) k ob) : FzAt M k ob := by
  obtain ⟨i, pl, h1, h2⟩ := h
  by_cases hi : i < M.length
  · rw [List.getElem?_append_left hi] at h1
    exact ⟨i, pl, h1, h2⟩
  · rw [List.getElem?_append_right (by omega)] at h1
    have : i - M.length = 0 := by
      have := (List.getElem?_eq_some_iff.1 h1).1
      simp at this
      omega
    rw [this] at h1
    simp at h1
    subst h1
    rw [hp] at h2
    cases h2
theorem FzAt.snocS {M : List Place} {p : Place} (hp : ∀ k ob, p.fz k = some ob → FzAt M k ob) {k : Nat} {ob : Obj} (h : FzAt (M ++ [p]) k ob) : FzAt M k ob := by
  obtain ⟨i, pl, h1, h2⟩ := h
  by_cases hi : i < M.length
  · rw [List.getElem?_append_left hi] at h1
    exact ⟨i, pl, h1, h2⟩
  · rw [List.getElem?_append_right (by omega)] at h1
    have : i - M.length = 0 := by
      have := (List.getElem?_eq_some_iff.1 h1).1
      simp at this
      omega
    rw [this] at h1
    simp at h1
    subst h1
    exact hp k ob h2
theorem FzAt.append {M N : List Place} {k : Nat} {ob : Obj} (h : FzAt (M ++ N) k ob) : FzAt M k ob ∨ FzAt N k ob := by
  obtain ⟨i, pl, h1, h2⟩ := h
  by_cases hi : i < M.length
  · rw [List.getElem?_append_left hi] at h1
    exact .inl ⟨i, pl, h1, h2⟩
  · rw [List.getElem?_append_right (by omega)] at h1
    exact .inr ⟨_, pl, h1, h2⟩
theorem FzAt.left {M : List Place} (N : List Place) {k : Nat} {ob : Obj} (h : FzAt M k ob) : FzAt (M ++ N) k ob := (Ext.snoc M N).fz k ob h
theorem FzAt.right (M : List Place) {N : List Place} {k : Nat} {ob : Obj} (h : FzAt N k ob) : FzAt (M ++ N) k ob := by
  obtain ⟨i, pl, h1, h2⟩ := h
  exact ⟨M.length + i, pl, by rw [List.getElem?_append_right (by omega)]; simpa using h1, h2⟩
theorem RelH.fz_lt {M : List Place} {H : Heap} {B : Base} {w : World} (r : RelH M H B w) {k : Nat} {ob : Obj} (h : FzAt M k ob) : k < w.heap.size := (Array.getElem?_eq_some_iff.1 (r.fz k ob h).1).1
end Go.AE
set_option linter.unusedVariables false
set_option linter.unusedSimpArgs false
namespace Go.AE
open Go Go.RowKit
def loB : IntKind → Int
  | .i8 => -128 | .i16 => -32768 | .i32 => -2147483648 | .i64 => -9223372036854775808 | .u8 | .u16 | .u32 | .u64 => 0
def hiB : IntKind → Int
  | .i8 => 127 | .i16 => 32767 | .i32 => 2147483647 | .i64 => 9223372036854775807 | .u8 => 255 | .u16 => 65535 | .u32 => 4294967295 | .u64 => 18446744073709551615
theorem has_iff {k : IntKind} {n : Int} : k.has n ↔ loB k ≤ n ∧ n ≤ hiB k := by
  have h1 : k.min = loB k := by cases k <;> rfl
  have h2 : k.max = hiB k := by cases k <;> rfl
  unfold IntKind.has
  rw [h1, h2]
def inB (k : IntKind) (n : Int) : Bool := decide (loB k ≤ n) && decide (n ≤ hiB k)
theorem has_of_inB {k : IntKind} {n : Int} (h : inB k n = true) : k.has n := by
  simp only [inB, Bool.and_eq_true, decide_eq_true_eq] at h
  exact has_iff.2 h
theorem wrap_has (k : IntKind) (n : Int) : k.has (k.wrap n) := by
  rw [has_iff]
  cases k <;> simp only [IntKind.wrap, IntKind.bits, IntKind.signed, loB, hiB] <;> simp <;> (try split) <;> omega
theorem wrap_id {k : IntKind} {n : Int} (h : k.has n) : k.wrap n = n := by
  rw [has_iff] at h
  cases k <;> simp only [IntKind.wrap, IntKind.bits, IntKind.signed, loB, hiB] at h ⊢ <;> simp <;> (try split) <;> omega
def fw (k : IntKind) (n : Int) : Int := cond (inB k n) n (k.wrap n)
theorem fw_eq (k : IntKind) (n : Int) : fw k n = k.wrap n := by
  unfold fw
  cases h : inB k n
  · rfl
  · exact (wrap_id (has_of_inB h)).symm
def iand (k : IntKind) (x y : Int) : Int := k.wrap (BitVec.ofInt k.bits x &&& BitVec.ofInt k.bits y).toNat
def ior (k : IntKind) (x y : Int) : Int := k.wrap (BitVec.ofInt k.bits x ||| BitVec.ofInt k.bits y).toNat
def ixor (k : IntKind) (x y : Int) : Int := k.wrap (BitVec.ofInt k.bits x ^^^ BitVec.ofInt k.bits y).toNat
def iandn (k : IntKind) (x y : Int) : Int := k.wrap (BitVec.ofInt k.bits x &&& ~~~(BitVec.ofInt k.bits y)).toNat
def ishl (k : IntKind) (x y : Int) : Int := k.wrap (x * 2 ^ (min y.toNat k.bits))
def ishr (k : IntKind) (x y : Int) : Int := x.fdiv (2 ^ (min y.toNat k.bits))
theorem tmod_has {k : IntKind} {x y : Int} (h : k.has x) : k.has (x.tmod y) := by
  rw [has_iff] at *
  have h0 : loB k ≤ 0 ∧ 0 ≤ hiB k := by cases k <;> simp [loB, hiB]
  rcases Int.lt_or_le x 0 with hx | hx
  · have h1 : x.tmod y = -((-x).tmod y) := by rw [Int.neg_tmod, Int.neg_neg]
    have h2 : 0 ≤ (-x).tmod y := Int.tmod_nonneg y (by omega)
    have h3 : (-x).tmod y ≤ -x := by
      obtain ⟨m, hm⟩ := Int.eq_ofNat_of_zero_le (show 0 ≤ -x by omega)
      rw [hm]
      rcases Int.natAbs_eq y with e | e
      · rw [e]; exact Int.ofNat_le.2 (Nat.mod_le m _)
      · rw [e, Int.tmod_neg]; exact Int.ofNat_le.2 (Nat.mod_le m _)
    omega
  · have h2 : 0 ≤ x.tmod y := Int.tmod_nonneg y hx
    have h3 : x.tmod y ≤ x := by
      obtain ⟨m, hm⟩ := Int.eq_ofNat_of_zero_le hx
      rw [hm]
      rcases Int.natAbs_eq y with e | e
      · rw [e]; exact Int.ofNat_le.2 (Nat.mod_le m _)
      · rw [e, Int.tmod_neg]; exact Int.ofNat_le.2 (Nat.mod_le m _)
    omega
theorem ishr_has {k : IntKind} {x y : Int} (h : k.has x) : k.has (ishr k x y) := by
  rw [has_iff] at *
  have h0 : loB k ≤ 0 ∧ 0 ≤ hiB k := by cases k <;> simp [loB, hiB]
  unfold ishr
  generalize min y.toNat k.bits = m
  have hp : (0 : Int) < 2 ^ m := Int.pow_pos (by omega)
  rw [Int.fdiv_eq_ediv_of_nonneg _ (by omega)]
  have h1 : x / 2 ^ m * 2 ^ m ≤ x := Int.ediv_mul_le x (by omega)
  have h2 : x < (x / 2 ^ m + 1) * 2 ^ m := Int.lt_ediv_add_one_mul_self x hp
  rcases Int.lt_or_le x 0 with hx | hx
  · have h3 : x / 2 ^ m < 0 := Int.ediv_neg_of_neg_of_pos hx hp
    have h4 : x ≤ x / 2 ^ m := by
      rcases Int.lt_or_le (x / 2 ^ m) x with h5 | h5
      · have h6 : (x / 2 ^ m + 1) * 2 ^ m ≤ (x / 2 ^ m + 1) * 1 := Int.mul_le_mul_of_nonpos_left (by omega) (by omega)
        omega
      · exact h5
    omega
  · have h3 : 0 ≤ x / 2 ^ m := Int.ediv_nonneg hx (by omega)
    have h4 : x / 2 ^ m ≤ x := Int.ediv_le_self _ hx
    omega
def lift2 {α β : Type} (f : α → α → β) : Option α → Option α → Option β
  | some a, some b => some (f a b)
  | _, _ => none
def unsignedK : IntKind → Bool
  | .u8 | .u16 | .u32 | .u64 => true
  | _ => false
def reqGe0 (k : IntKind) (l : Option Int) (y : Int) : Bool :=
  match unsignedK k, l with
  | true, _ => true
  | false, some m => decide (0 ≤ m)
  | false, none => decide (0 ≤ y)
def reqNe0 (l : Option Int) (y : Int) : Bool :=
  match l with
  | some m => !(m == 0)
  | none => !(y == 0)
def litI (k : IntKind) (l : Option Int) (x : Int) : AV :=
  match l with
  | some m => .int k (some m) m
  | none => .int k none x
def litB (l : Option Bool) (x : Bool) : AV :=
  match l with
  | some m => .bool (some m) m
  | none => .bool none x
theorem relV_litI {M : List Place} {k : IntKind} {l : Option Int} {x : Int} (h : k.has x) (hl : ∀ m, l = some m → x = m) : RelV M (litI k l x) (.int k x) := by
  cases l with
  | none => simp [litI, RelV, RelX, h]
  | some m => have := hl m rfl; subst this; simp [litI, RelV, RelX, h]
theorem relV_litB {M : List Place} {l : Option Bool} {x : Bool} (hl : ∀ m, l = some m → x = m) : RelV M (litB l x) (.bool x) := by
  cases l with
  | none => simp [litB, RelV, RelX]
  | some m => have := hl m rfl; subst this; simp [litB, RelV, RelX]
def abinI (op : BinOp) (k : IntKind) (lx : Option Int) (x : Int) (ly : Option Int) (y : Int) : Option (Bool × AV) :=
  match op with
  | .add => some (true, litI k (lift2 (fun m n => fw k (m + n)) lx ly) (k.wrap (x + y)))
  | .sub => some (true, litI k (lift2 (fun m n => fw k (m - n)) lx ly) (k.wrap (x - y)))
  | .mul => some (true, litI k (lift2 (fun m n => fw k (m * n)) lx ly) (k.wrap (x * y)))
  | .quo => some (reqNe0 ly y, litI k (lift2 (fun m n => fw k (m.tdiv n)) lx ly) (k.wrap (x.tdiv y)))
  | .rem => some (reqNe0 ly y, litI k (lift2 (fun m n => m.tmod n) lx ly) (x.tmod y))
  | .and => some (true, litI k (lift2 (iand k) lx ly) (iand k x y))
  | .or => some (true, litI k (lift2 (ior k) lx ly) (ior k x y))
  | .xor => some (true, litI k (lift2 (ixor k) lx ly) (ixor k x y))
  | .andNot => some (true, litI k (lift2 (iandn k) lx ly) (iandn k x y))
  | .eql => some (true, litB (lift2 (· == ·) lx ly) (x == y))
  | .neq => some (true, litB (lift2 (· != ·) lx ly) (x != y))
  | .lss => some (true, litB (lift2 (fun m n => decide (m < n)) lx ly) (decide (x < y)))
  | .leq => some (true, litB (lift2 (fun m n => decide (m ≤ n)) lx ly) (decide (x ≤ y)))
  | .gtr => some (true, litB (lift2 (fun m n => decide (n < m)) lx ly) (decide (y < x)))
  | .geq => some (true, litB (lift2 (fun m n => decide (n ≤ m)) lx ly) (decide (y ≤ x)))
  | _ => none
theorem lift2_spec {α β : Type} {f : α → α → β} {lx ly : Option α} {z : β} (h : lift2 f lx ly = some z) : ∃ m n, lx = some m ∧ ly = some n ∧ z = f m n := by
  cases lx <;> cases ly <;> simp [lift2] at h
  exact ⟨_, _, rfl, rfl, h.symm⟩
theorem req_ne0 {l : Option Int} {y : Int} (hl : ∀ m, l = some m → y = m) (h : reqNe0 l y = true) : y ≠ 0 := by
  cases l with
  | none => simpa [reqNe0] using h
  | some m => have := hl m rfl; subst this; simpa [reqNe0] using h
theorem req_ge0 {k : IntKind} {l : Option Int} {y : Int} (hk : k.has y) (hl : ∀ m, l = some m → y = m) (h : reqGe0 k l y = true) : 0 ≤ y := by
  rw [has_iff] at hk
  cases hu : unsignedK k
  · cases l with
    | none => simpa [reqGe0, hu] using h
    | some m => have := hl m rfl; subst this; simpa [reqGe0, hu] using h
  · cases k <;> simp [unsignedK, loB] at hu hk <;> exact hk.1
theorem abinI_sound {P : Program} {M : List Place} {ρ : Operand → Value} {o : Oper} {op : BinOp} {t t' : TypeId} {x y : Operand} (ho : o.op = .binOp op t x y t') {k : IntKind} {m n : Int}
    (hx : ρ x = .int k m) (hy : ρ y = .int k n) (hm : k.has m) {lx ly : Option Int} (hlx : ∀ z, lx = some z → m = z) (hly : ∀ z, ly = some z → n = z)
    {req : Bool} {r : AV} (h : abinI op k lx m ly n = some (req, r)) (hreq : req = true) :
    ∃ v, RelV M r v ∧ ∀ w, (execOp ρ o).run P w = .ok (.value v) w := by
  subst hreq
  have hI : ∀ (f : Int → Int → Int) (z : Int), (∀ a b, lx = some a → ly = some b → z = f a b) → ∀ q, lift2 f lx ly = some q → z = q := by
    intro f z hz q hq
    obtain ⟨a, b, ha, hb, e⟩ := lift2_spec hq
    rw [e]; exact hz a b ha hb
  have hB : ∀ (f : Int → Int → Bool) (z : Bool), (∀ a b, lx = some a → ly = some b → z = f a b) → ∀ q, lift2 f lx ly = some q → z = q := by
    intro f z hz q hq
    obtain ⟨a, b, ha, hb, e⟩ := lift2_spec hq
    rw [e]; exact hz a b ha hb
  cases op <;> simp only [abinI, Option.some.injEq, Prod.mk.injEq, reduceCtorEq] at h <;> obtain ⟨h1, rfl⟩ := h
  case quo =>
    have hn := req_ne0 hly h1
    refine ⟨_, relV_litI (wrap_has _ _) (hI _ _ fun a b ha hb => ?_), fun w => ?_⟩
    · rw [fw_eq, hlx a ha, hly b hb]
    · simp [execOp, ho, hx, hy, binOp, eqGuard, Op.intDiv, hn, bind, pure, Sem.bind]
  case rem =>
    have hn := req_ne0 hly h1
    refine ⟨_, relV_litI (tmod_has hm) (hI _ _ fun a b ha hb => ?_), fun w => ?_⟩
    · rw [hlx a ha, hly b hb]
    · simp [execOp, ho, hx, hy, binOp, eqGuard, Op.intDiv, hn, bind, pure, Sem.bind]
  case add | sub | mul =>
    refine ⟨_, relV_litI (wrap_has _ _) (hI _ _ fun a b ha hb => ?_), fun w => ?_⟩
    · rw [fw_eq, hlx a ha, hly b hb]
    · simp [execOp, ho, hx, hy, binOp, eqGuard, Op.intArith, bind, pure, Sem.bind]
  case and | or | xor | andNot =>
    refine ⟨_, relV_litI (wrap_has _ _) (hI _ _ fun a b ha hb => ?_), fun w => ?_⟩
    · rw [hlx a ha, hly b hb]
    · simp [execOp, ho, hx, hy, binOp, eqGuard, Op.intBits, bind, pure, Sem.bind, iand, ior, ixor, iandn]
  case eql | neq | lss | leq | gtr | geq =>
    refine ⟨_, relV_litB (hB _ _ fun a b ha hb => ?_), fun w => ?_⟩
    · rw [hlx a ha, hly b hb]
    · simp [execOp, ho, hx, hy, binOp, eqGuard, Op.intCmp, bind, pure, Sem.bind]
def ashift (op : BinOp) (k : IntKind) (lx : Option Int) (x : Int) (k' : IntKind) (ly : Option Int) (y : Int) : Option (Bool × AV) :=
  match op with
  | .shl => some (reqGe0 k' ly y, litI k (lift2 (ishl k) lx ly) (ishl k x y))
  | .shr => some (reqGe0 k' ly y, litI k (lift2 (ishr k) lx ly) (ishr k x y))
  | _ => none
theorem ashift_sound {P : Program} {M : List Place} {ρ : Operand → Value} {o : Oper} {op : BinOp} {t t' : TypeId} {x y : Operand} (ho : o.op = .binOp op t x y t') {k k' : IntKind} {m n : Int}
    (hx : ρ x = .int k m) (hy : ρ y = .int k' n) (hm : k.has m) (hn : k'.has n) {lx ly : Option Int} (hlx : ∀ z, lx = some z → m = z) (hly : ∀ z, ly = some z → n = z)
    {req : Bool} {r : AV} (h : ashift op k lx m k' ly n = some (req, r)) (hreq : req = true) :
    ∃ v, RelV M r v ∧ ∀ w, (execOp ρ o).run P w = .ok (.value v) w := by
  subst hreq
  cases op <;> simp only [ashift, Option.some.injEq, Prod.mk.injEq, reduceCtorEq] at h <;> obtain ⟨h1, rfl⟩ := h
  all_goals
    have h0 := req_ge0 hn hly h1
    have h0' : ¬ n < 0 := by omega
  · refine ⟨_, relV_litI (wrap_has _ _) (fun q hq => ?_), fun w => ?_⟩
    · obtain ⟨a, b, ha, hb, e⟩ := lift2_spec hq
      rw [e, ← hlx a ha, ← hly b hb]
    · simp [execOp, ho, hx, hy, binOp, eqGuard, Op.shift, h0', bind, pure, Sem.bind, ishl]
  · refine ⟨_, relV_litI (ishr_has (y := n) hm) (fun q hq => ?_), fun w => ?_⟩
    · obtain ⟨a, b, ha, hb, e⟩ := lift2_spec hq
      rw [e, ← hlx a ha, ← hly b hb]
    · simp [execOp, ho, hx, hy, binOp, eqGuard, Op.shift, h0', bind, pure, Sem.bind, ishr]
end Go.AE
set_option linter.unusedVariables false
set_option linter.unusedSimpArgs false
namespace Go.AE
open Go Go.RowKit
def width : AV → Nat
  | .is _ n _ => n
  | _ => 1
theorem RelX_length {M : List Place} {x : AV} {a : List Value} (h : RelX M x a) : a.length = width x := by
  cases x <;> simp only [RelX] at h
  case undef => obtain ⟨v, rfl⟩ := h; rfl
  case int => rw [h.1]; rfl
  case bool => rw [h.1]; rfl
  case nilp | nils | nilf | niface => rw [h]; rfl
  case str => rw [h.1]; rfl
  case ptr => obtain ⟨pl, _, _, e, _⟩ := h; rw [e]; rfl
  case rptr => obtain ⟨pl, _, _, e, _⟩ := h; rw [e]; rfl
  case sl => obtain ⟨pl, A, cap, _, e, _⟩ := h; rw [e]; rfl
  case fn => obtain ⟨_, _, e, _⟩ := h; rw [e]; rfl
  case agg => obtain ⟨_, e, _⟩ := h; rw [e]; rfl
  case is => rw [h.2.1]; simp [h.1, width]
  case tup => obtain ⟨_, e, _⟩ := h; rw [e]; rfl
  case iface | fsl | dsl => obtain ⟨_, e, _⟩ := h; rw [e]; rfl
  case fref | dref => obtain ⟨_, _, _, _, _, e, _⟩ := h; rw [e]; rfl
  case mapc => obtain ⟨_, _, _, e, _⟩ := h; rw [e]; rfl
  case mp | itr | yld => rw [h]; rfl
theorem RelC_nil {M : List Place} {vs : List Value} : RelC M [] vs ↔ vs = [] := by simp only [RelC]
theorem RelC_cons {M : List Place} {x : AV} {xs : List AV} {vs : List Value} : RelC M (x :: xs) vs ↔ ∃ a r, vs = a ++ r ∧ RelX M x a ∧ RelC M xs r := by simp only [RelC]
theorem RelL_nil {M : List Place} {vs : List Value} : RelL M [] vs ↔ vs = [] := by simp only [RelL]
theorem RelL_cons {M : List Place} {x : AV} {xs : List AV} {vs : List Value} : RelL M (x :: xs) vs ↔ ∃ v r, vs = v :: r ∧ RelX M x [v] ∧ RelL M xs r := by simp only [RelL]
theorem RelX_is {M : List Place} {k : IntKind} {n : Nat} {l : List Int} {a : List Value} : RelX M (.is k n l) a ↔ l.length = n ∧ a = l.map (.int k) ∧ ∀ x ∈ l, k.has x := by simp only [RelX]
theorem RelX_int {M : List Place} {k : IntKind} {lit : Option Int} {x : Int} {a : List Value} : RelX M (.int k lit x) a ↔ a = [.int k x] ∧ k.has x ∧ (∀ m, lit = some m → x = m) := by simp only [RelX]
theorem RelX_agg {M : List Place} {cs : List AV} {a : List Value} : RelX M (.agg cs) a ↔ ∃ vs : Array Value, a = [.agg vs] ∧ RelC M cs vs.toList := by simp only [RelX]
theorem RelC_single {M : List Place} {x : AV} {vs : List Value} : RelC M [x] vs ↔ RelX M x vs := by
  rw [RelC_cons]
  constructor
  · rintro ⟨a, r, e, h, h2⟩
    rw [RelC_nil] at h2
    subst h2
    simpa [e] using h
  · intro h
    exact ⟨vs, [], by simp, h, RelC_nil.2 rfl⟩
theorem has_getD {k : IntKind} {l : List Int} (h : ∀ x ∈ l, k.has x) (i : Nat) (hi : i < l.length) : k.has (l.getD i 0) := by
  rw [List.getD_eq_getElem?_getD, List.getElem?_eq_getElem hi]
  exact h _ (List.getElem_mem hi)
theorem map_getD {k : IntKind} {l : List Int} {i : Nat} (hi : i < l.length) : (l.map (Value.int k))[i]? = some (.int k (l.getD i 0)) := by
  simp [List.getD_eq_getElem?_getD, hi]
def cellAt : List AV → Nat → Option AV
  | [], _ => none
  | .is k n l :: r, s => if s < n then some (.int k none (l.getD s 0)) else cellAt r (s - n)
  | x :: _, 0 => some x
  | _ :: r, s + 1 => cellAt r s
theorem cellAt_rel {M : List Place} : ∀ {cs : List AV} {vs : List Value} {s : Nat} {x : AV}, RelC M cs vs → cellAt cs s = some x → ∃ v, vs[s]? = some v ∧ RelV M x v
  | [], _, _, _, _, h => by simp [cellAt] at h
  | c :: r, vs, s, x, hc, h => by
    obtain ⟨a, t, rfl, hx, hr⟩ := RelC_cons.1 hc
    have hl := RelX_length hx
    by_cases his : ∃ k n l, c = .is k n l
    · obtain ⟨k, n, l, rfl⟩ := his
      obtain ⟨h1, h2, h3⟩ := RelX_is.1 hx
      simp only [width] at hl
      simp only [cellAt] at h
      split at h
      · rename_i hs
        cases h
        refine ⟨.int k (l.getD s 0), ?_, ?_⟩
        · rw [List.getElem?_append_left (by omega), h2, map_getD (by omega)]
        · exact RelX_int.2 ⟨rfl, has_getD h3 s (by omega), fun m hm => by cases hm⟩
      · rename_i hs
        obtain ⟨v, hv, hxv⟩ := cellAt_rel hr h
        exact ⟨v, by rw [List.getElem?_append_right (by omega), hl]; exact hv, hxv⟩
    · have hw : width c = 1 := by
        cases c <;> first | rfl | (exfalso; exact his ⟨_, _, _, rfl⟩)
      rw [hw] at hl
      obtain ⟨v, rfl⟩ := List.length_eq_one_iff.1 hl
      cases s with
      | zero =>
        have : cellAt (c :: r) 0 = some c := by
          cases c <;> first | rfl | (exfalso; exact his ⟨_, _, _, rfl⟩)
        rw [this] at h
        cases h
        exact ⟨v, rfl, hx⟩
      | succ s =>
        have : cellAt (c :: r) (s + 1) = cellAt r s := by
          cases c <;> first | rfl | (exfalso; exact his ⟨_, _, _, rfl⟩)
        rw [this] at h
        obtain ⟨u, hu, hxu⟩ := cellAt_rel hr h
        exact ⟨u, by simpa using hu, hxu⟩
def subC : List AV → Nat → Nat → Option (List AV)
  | _, _, 0 => some []
  | [], _, _ + 1 => none
  | .is k n l :: r, s, t + 1 =>
    if n ≤ s then subC r (s - n) (t + 1)
    else if s + (t + 1) ≤ n then some [.is k (t + 1) (if s = 0 ∧ t + 1 = n then l else (l.drop s).take (t + 1))]
    else (subC r 0 (t + 1 - (n - s))).map (.is k (n - s) (l.drop s) :: ·)
  | x :: r, 0, t + 1 => (subC r 0 t).map (x :: ·)
  | _ :: r, s + 1, t + 1 => subC r s (t + 1)
theorem subC_rel {M : List Place} : ∀ {cs : List AV} {vs : List Value} {s t : Nat} {r : List AV}, RelC M cs vs → subC cs s t = some r → RelC M r ((vs.drop s).take t) ∧ s + t ≤ vs.length ∨ t = 0 ∧ r = []
  | cs, vs, s, 0, r, _, h => by
    right
    unfold subC at h
    cases h
    exact ⟨rfl, rfl⟩
  | [], _, _, _ + 1, _, _, h => by simp [subC] at h
  | c :: cs, vs, s, t + 1, r, hc, h => by
    left
    obtain ⟨a, u, rfl, hx, hr⟩ := RelC_cons.1 hc
    have hl := RelX_length hx
    by_cases his : ∃ k n l, c = .is k n l
    · obtain ⟨k, n, l, rfl⟩ := his
      obtain ⟨h1, h2, h3⟩ := RelX_is.1 hx
      simp only [width] at hl
      simp only [subC] at h
      split at h
      · rename_i hs
        rcases subC_rel hr h with ⟨g1, g2⟩ | ⟨g1, _⟩
        · refine ⟨?_, by simp; omega⟩
          rw [List.drop_append, List.drop_of_length_le (by omega), List.nil_append, hl]
          exact g1
        · omega
      · rename_i hs
        split at h
        · rename_i hs2
          cases h
          refine ⟨?_, by simp; omega⟩
          rw [RelC_single, RelX_is]
          have e : ((a ++ u).drop s).take (t + 1) = (a.drop s).take (t + 1) := by
            rw [List.drop_append, List.take_append, show t + 1 - (List.drop s a).length = 0 by simp; omega]
            simp
          rw [e, h2]
          split
          · rename_i hz
            obtain ⟨hz1, hz2⟩ := hz
            subst hz1
            refine ⟨by omega, ?_, h3⟩
            rw [List.drop_zero, List.take_of_length_le (by simp; omega)]
          · refine ⟨by simp; omega, by simp [List.map_take, List.map_drop], fun x hx => h3 x (List.mem_of_mem_drop (List.mem_of_mem_take hx))⟩
        · rename_i hs2
          cases hq : subC cs 0 (t + 1 - (n - s)) with
          | none => rw [hq] at h; simp at h
          | some r' =>
            rw [hq] at h
            simp only [Option.map_some, Option.some.injEq] at h
            subst h
            rcases subC_rel hr hq with ⟨g1, g2⟩ | ⟨g1, _⟩
            · refine ⟨?_, by simp; omega⟩
              rw [RelC_cons]
              refine ⟨(l.drop s).map (.int k), u.take (t + 1 - (n - s)), ?_, ?_, by simpa using g1⟩
              · rw [List.drop_append, List.take_append, h2, show s - (List.map (Value.int k) l).length = 0 by simp; omega, List.drop_zero, List.map_drop, List.take_of_length_le (by simp; omega)]
                simp [h1]
              · rw [RelX_is]
                exact ⟨by simp; omega, rfl, fun x hx => h3 x (List.mem_of_mem_drop hx)⟩
            · omega
    · have hw : width c = 1 := by
        cases c <;> first | rfl | (exfalso; exact his ⟨_, _, _, rfl⟩)
      rw [hw] at hl
      obtain ⟨v, rfl⟩ := List.length_eq_one_iff.1 hl
      cases s with
      | zero =>
        have : subC (c :: cs) 0 (t + 1) = (subC cs 0 t).map (c :: ·) := by
          cases c <;> first | rfl | (exfalso; exact his ⟨_, _, _, rfl⟩)
        rw [this] at h
        cases hq : subC cs 0 t with
        | none => rw [hq] at h; simp at h
        | some r' =>
          rw [hq] at h
          simp only [Option.map_some, Option.some.injEq] at h
          subst h
          rcases subC_rel hr hq with ⟨g1, g2⟩ | ⟨g1, g2⟩
          · refine ⟨?_, by simp; omega⟩
            rw [RelC_cons]
            exact ⟨[v], u.take t, by simp, hx, by simpa using g1⟩
          · subst g1; subst g2
            refine ⟨?_, by simp⟩
            rw [RelC_single]
            simpa using hx
      | succ s =>
        have : subC (c :: cs) (s + 1) (t + 1) = subC cs s (t + 1) := by
          cases c <;> first | rfl | (exfalso; exact his ⟨_, _, _, rfl⟩)
        rw [this] at h
        rcases subC_rel hr h with ⟨g1, g2⟩ | ⟨g1, _⟩
        · exact ⟨by simpa using g1, by simp; omega⟩
        · omega
def dynAt : List AV → Nat → Nat → Option (IntKind × Nat × List Int)
  | [], _, _ => none
  | .is k n l :: r, p, span => if p + span ≤ n then some (k, p, l) else if n ≤ p then dynAt r (p - n) span else none
  | _ :: _, 0, _ => none
  | _ :: r, p + 1, span => dynAt r p span
theorem dynAt_rel {M : List Place} : ∀ {cs : List AV} {vs : List Value} {p span : Nat} {k : IntKind} {q : Nat} {l : List Int}, RelC M cs vs → dynAt cs p span = some (k, q, l) →
    q + span ≤ l.length ∧ (∀ x ∈ l, k.has x) ∧ ∃ d, p = d + q ∧ ∀ j, j < l.length → vs[d + j]? = some (.int k (l.getD j 0))
  | [], _, _, _, _, _, _, _, h => by simp [dynAt] at h
  | c :: r, vs, p, span, k, q, l, hc, h => by
    obtain ⟨a, t, rfl, hx, hr⟩ := RelC_cons.1 hc
    have hl := RelX_length hx
    by_cases his : ∃ k n l, c = .is k n l
    · obtain ⟨k', n, l', rfl⟩ := his
      obtain ⟨h1, h2, h3⟩ := RelX_is.1 hx
      simp only [width] at hl
      simp only [dynAt] at h
      split at h
      · rename_i hs
        cases h
        refine ⟨by omega, h3, 0, by omega, fun j hj => ?_⟩
        rw [Nat.zero_add, List.getElem?_append_left (by omega), h2, map_getD hj]
      · split at h
        · rename_i hs1 hs2
          obtain ⟨g1, g2, d, g3, g4⟩ := dynAt_rel hr h
          refine ⟨g1, g2, d + n, by omega, fun j hj => ?_⟩
          rw [List.getElem?_append_right (by omega), show d + n + j - a.length = d + j by omega]
          exact g4 j hj
        · cases h
    · have hw : width c = 1 := by
        cases c <;> first | rfl | (exfalso; exact his ⟨_, _, _, rfl⟩)
      rw [hw] at hl
      obtain ⟨v, rfl⟩ := List.length_eq_one_iff.1 hl
      cases p with
      | zero =>
        have : dynAt (c :: r) 0 span = none := by
          cases c <;> first | rfl | (exfalso; exact his ⟨_, _, _, rfl⟩)
        rw [this] at h
        cases h
      | succ p =>
        have : dynAt (c :: r) (p + 1) span = dynAt r p span := by
          cases c <;> first | rfl | (exfalso; exact his ⟨_, _, _, rfl⟩)
        rw [this] at h
        obtain ⟨g1, g2, d, g3, g4⟩ := dynAt_rel hr h
        refine ⟨g1, g2, d + 1, by omega, fun j hj => ?_⟩
        rw [show d + 1 + j = (d + j) + 1 by omega]
        simpa using g4 j hj
def padd : Nat → Nat → Nat
  | 0, d => d
  | q + 1, d => q + 1 + d
theorem padd_eq (q d : Nat) : padd q d = q + d := by cases q <;> simp [padd]
end Go.AE
set_option linter.unusedVariables false
set_option linter.unusedSimpArgs false
namespace Go.AE
open Go Go.RowKit
def isAggT (P : Program) (t : TypeId) : Option Bool :=
  match P.underlying t with
  | some (.struct _) => some true
  | some (.array _ _) => some true
  | some _ => some false
  | none => none
def sizeT (P : Program) (t : TypeId) : Option Nat := (P.info? t).map (·.size)
theorem run_isAgg {P : Program} {t : TypeId} {b : Bool} (h : isAggT P t = some b) (w : World) : (isAgg t).run P w = .ok b w := by
  unfold isAggT at h
  cases hu : P.underlying t with
  | none => simp [hu] at h
  | some d =>
    have h1 := run_underlying hu w
    cases d <;> simp [hu] at h <;> subst h <;> simp [isAgg, h1]
theorem run_sizeT {P : Program} {t : TypeId} {s : Nat} (h : sizeT P t = some s) (w : World) : (sizeOf t).run P w = .ok s w := by
  unfold sizeT at h
  cases hi : P.info? t with
  | none => simp [hi] at h
  | some i =>
    simp [hi] at h
    simp [sizeOf, typeInfo, hi, h]
theorem addr_add (b o i : Nat) : (⟨b, o, none⟩ : Addr).add i = ⟨b, o + i, none⟩ := by unfold Addr.add; split <;> simp_all
theorem run_cells {P : Program} {w : World} {g o s : Nat} {cs : Array Value} {el : TypeId} {fz : Nat × Nat} (hg : w.heap[g]? = some (.cells cs el fz)) (h : o + s ≤ cs.size) :
    (loadCells ⟨g, o, none⟩ s).run P w = .ok ((cs.toList.drop o).take s).toArray w := by
  have := run_loadCells_list (P := P) w ⟨g, o, none⟩ ((cs.toList.drop o).take s) (fun j v hv => by
    rw [addr_add]
    simp only [World.cell?, hg]
    have hj : j < s := by
      have := (List.getElem?_eq_some_iff.1 hv).1
      simp at this
      omega
    rw [List.getElem?_take, if_pos hj, List.getElem?_drop] at hv
    simpa using hv)
  have hl : ((cs.toList.drop o).take s).length = s := by simp; omega
  rw [hl] at this
  exact this
theorem run_load1 {P : Program} {w : World} {g o : Nat} {cs : Array Value} {el : TypeId} {fz : Nat × Nat} (hg : w.heap[g]? = some (.cells cs el fz)) {v : Value} (h : cs.toList[o]? = some v) :
    (load ⟨g, o, none⟩).run P w = .ok v w := by
  have hc : w.cell? ⟨g, o, none⟩ = some v := by
    simp only [World.cell?, hg]
    simpa using h
  simp [load, Sem.run, hc]
def objC (H : Heap) (b : Nat) : Option Cont :=
  match H[b]? with
  | some (some o) => some o.c
  | _ => none
theorem objC_ok {M : List Place} {H : Heap} {B : Base} {w : World} (r : RelH M H B w) {b : Nat} {c : Cont} (h : objC H b = some c) : ∃ o pl, H[b]? = some (some o) ∧ o.c = c ∧ M[b]? = some pl ∧ ObjOk M o pl B w := by
  unfold objC at h
  split at h
  · rename_i o ho
    cases h
    obtain ⟨pl, hp, hok⟩ := r.obj b o ho
    exact ⟨o, pl, ho, rfl, hp, hok⟩
  · cases h
def rowOf : Cont → Option (IntKind × List Int)
  | .row k l => some (k, l)
  | .segs [.is k _ l] => some (k, l)
  | _ => none
theorem rowOf_rel {M : List Place} {c : Cont} {vs : List Value} {k : IntKind} {l : List Int} (h : RelO M c vs) (hr : rowOf c = some (k, l)) : vs = l.map (.int k) ∧ ∀ x ∈ l, k.has x := by
  unfold rowOf at hr
  split at hr
  · cases hr; exact h
  · cases hr
    simp only [RelO, RelC_single, RelX_is] at h
    exact ⟨h.2.1, h.2.2⟩
  · cases hr
def EK.avs : (e : EK) → e.den → List AV
  | .row k sz, l => [.fsl k sz l]
  | .pair, x => [.str x.1, .str x.2]
  | .img k sz, x => [.int .i64 none x.1, .int .i64 none x.2.1, .fsl k sz x.2.2]
  | .deep e, l => [.dsl ⟨e, l⟩]
theorem EK.avs_rel {M : List Place} : ∀ {e : EK} {x : e.den} {a : List Value}, e.rel M x a → RelC M (e.avs x) a
  | .row k sz, l, a, r => RelC_single.2 (by simp only [RelX]; exact r)
  | .pair, x, a, r => by
    obtain ⟨rfl, ⟨h1, h2⟩, h3, h4⟩ := r
    exact RelC_cons.2 ⟨[_], [_], rfl, by simp only [RelX, true_and]; exact ⟨h1, h3⟩, RelC_single.2 (by simp only [RelX, true_and]; exact ⟨h2, h4⟩)⟩
  | .img k sz, x, a, r => by
    obtain ⟨v, rfl, h1, h2, r⟩ := r
    exact RelC_cons.2 ⟨[_], [_, _], rfl, RelX_int.2 ⟨rfl, h1, fun m hm => by cases hm⟩, RelC_cons.2 ⟨[_], [_], rfl, RelX_int.2 ⟨rfl, h2, fun m hm => by cases hm⟩, RelC_single.2 (by simp only [RelX]; exact ⟨v, rfl, r⟩)⟩⟩
  | .deep e, l, a, r => RelC_single.2 (by simp only [RelX]; exact r)
def aload (P : Program) (H : Heap) (t : TypeId) : AV → Option AV
  | .ptr b base dyn room span =>
    match objC H b, isAggT P t, sizeT P t with
    | some (.segs cs), some false, _ =>
      if 1 ≤ room then
        match dyn with
        | none => cellAt cs base
        | some d => (dynAt cs base span).map fun x => .int x.1 none (x.2.2.getD (padd x.2.1 d) 0)
      else none
    | some (.segs cs), some true, some s =>
      if s ≤ room then
        match dyn with
        | none => (subC cs base s).map .agg
        | some d => (dynAt cs base span).map fun x => .agg [.is x.1 s ((x.2.2.drop (padd x.2.1 d)).take s)]
      else none
    | _, _, _ => none
  | .rptr b off room =>
    match objC H b, isAggT P t, sizeT P t with
    | some c, some false, _ =>
      if 1 ≤ room then
        match rowOf c with
        | some (k, l) => some (.int k none (l.getD off 0))
        | none => match c with
          | .segs cs => cellAt cs off
          | .drow d => if d.e.w = 1 then cellAt (d.e.avs (d.l.getD off d.e.dflt)) 0 else none
          | _ => none
      else none
    | some c, some true, some s =>
      if s ≤ room then
        match rowOf c with
        | some (k, l) => some (.agg [.is k s ((l.drop off).take s)])
        | none => match c with
          | .segs cs => (subC cs off s).map .agg
          | _ => none
      else none
    | _, _, _ => none
  | .fref k l off room =>
    match isAggT P t, sizeT P t with
    | some false, _ => if 1 ≤ room then some (.int k none (l.getD off 0)) else none
    | some true, some s => if s ≤ room then some (.agg [.is k s ((l.drop off).take s)]) else none
    | _, _ => none
  | .dref d off =>
    match isAggT P t, sizeT P t with
    | some false, _ => cellAt (d.e.avs d.x) off
    | some true, some s => if off = 0 ∧ s = d.e.w then some (.agg (d.e.avs d.x)) else none
    | _, _ => none
  | _ => none
theorem take_drop_at {l : List Int} {k : IntKind} {vs : List Value} {d q s : Nat} (h : ∀ j, j < l.length → vs[d + j]? = some (.int k (l.getD j 0))) (hq : q + s ≤ l.length) :
    (vs.drop (d + q)).take s = ((l.drop q).take s).map (.int k) := by
  apply List.ext_getElem?
  intro j
  by_cases hj : j < s
  · rw [List.getElem?_take, if_pos hj, List.getElem?_drop, Nat.add_assoc, h (q + j) (by omega), List.getElem?_map, List.getElem?_take, if_pos hj, List.getElem?_drop,
      List.getD_eq_getElem?_getD, List.getElem?_eq_getElem (by omega)]
    simp
  · rw [List.getElem?_take, if_neg hj, List.getElem?_map, List.getElem?_take, if_neg hj]
    rfl
theorem run_loadVar1 {P : Program} {t : TypeId} (ht : isAggT P t = some false) {w : World} {g o : Nat} {cs : Array Value} {el : TypeId} {fz : Nat × Nat} (hg : w.heap[g]? = some (.cells cs el fz)) {v : Value} (h : cs.toList[o]? = some v) :
    (loadVar t ⟨g, o, none⟩).run P w = .ok v w := by
  unfold loadVar
  rw [Sem.run_bind, run_isAgg ht]
  simp only [Result.andThen_ok]
  exact run_load1 hg h
theorem run_loadVarN {P : Program} {t : TypeId} {s : Nat} (ht : isAggT P t = some true) (hs : sizeT P t = some s) {w : World} {g o : Nat} {cs : Array Value} {el : TypeId} {fz : Nat × Nat} (hg : w.heap[g]? = some (.cells cs el fz)) (h : o + s ≤ cs.size) :
    (loadVar t ⟨g, o, none⟩).run P w = .ok (.agg ((cs.toList.drop o).take s).toArray) w := by
  simp [loadVar, run_isAgg ht, run_sizeT hs, run_cells hg h]
theorem below_block {w w' : World} {g : Nat} {ob : Obj} (hb : Below w.heap.size w w') (h : w.heap[g]? = some ob) : w'.heap[g]? = some ob := by
  rw [hb.block _ ((Array.getElem?_eq_some_iff.1 h).1)]; exact h
theorem getElem?_cells {cs : List Value} {off n j : Nat} {v : Value} (h : ((cs.drop off).take n)[j]? = some v) : cs[off + j]? = some v := by
  have hj : j < n := by
    have := (List.getElem?_eq_some_iff.1 h).1
    simp at this
    omega
  rw [List.getElem?_take, if_pos hj, List.getElem?_drop] at h
  exact h
theorem sub_cells {cs : List Value} {off n o s : Nat} (h : o + s ≤ n) : (((cs.drop off).take n).drop o).take s = (cs.drop (off + o)).take s := by
  apply List.ext_getElem?
  intro j
  by_cases hj : j < s
  · rw [List.getElem?_take, if_pos hj, List.getElem?_drop, List.getElem?_take, if_pos (by omega), List.getElem?_drop, List.getElem?_take, if_pos hj, List.getElem?_drop, Nat.add_assoc]
  · rw [List.getElem?_take, if_neg hj, List.getElem?_take, if_neg hj]
theorem aload_at {P : Program} {M : List Place} {H : Heap} {B : Base} {w : World} (r : RelH M H B w) {t : TypeId} {p x : AV} {v : Value} (hv : RelV M p v) (h : aload P H t p = some x) :
    ∃ A u, v = .pointer (some A) ∧ RelV M x u ∧ ∀ w', (∀ ob, w.heap[A.block]? = some ob → w'.heap[A.block]? = some ob) → (loadVar t A).run P w' = .ok u w' := by
  cases p <;> simp only [aload, reduceCtorEq] at h
  case ptr b base dyn room span =>
    simp only [RelV, RelX] at hv
    obtain ⟨pl, hpl, hnil, hv, hd1, hd2⟩ := hv
    have hv : v = .pointer (some ⟨pl.blk, pl.off + (base + dyn.getD 0), none⟩) := by simpa using hv
    split at h
    · 
      rename_i cs _ hc ht
      obtain ⟨o, pl', ho, hoc, hp', hok⟩ := objC_ok r hc
      rw [hpl] at hp'; cases hp'
      rcases hok with ⟨hn, _⟩ | ⟨_, cells, el, fz, hg, hsz, hle, hro, _⟩
      · rw [hnil] at hn; cases hn
      rw [hoc] at hro
      split at h
      · rename_i hroom
        cases dyn with
        | none =>
          simp only at h
          obtain ⟨u, hu, hxu⟩ := cellAt_rel hro h
          refine ⟨_, u, hv, hxu, fun w' hb => ?_⟩
          exact run_loadVar1 ht (hb _ hg) (by simpa using getElem?_cells hu)
        | some d =>
          simp only [Option.map_eq_some_iff] at h
          obtain ⟨⟨k, q, l⟩, hq, rfl⟩ := h
          obtain ⟨g1, g2, d0, g3, g4⟩ := dynAt_rel hro hq
          simp only [Option.getD_some] at hd1 hv
          dsimp only
          refine ⟨_, .int k (l.getD (padd q d) 0), hv, ?_, fun w' hb => ?_⟩
          · rw [padd_eq]
            exact RelX_int.2 ⟨rfl, has_getD g2 _ (by omega), fun m hm => by cases hm⟩
          · refine run_loadVar1 ht (hb _ hg) ?_
            have := getElem?_cells (g4 (q + d) (by omega))
            rw [padd_eq, show pl.off + (base + d) = pl.off + (d0 + (q + d)) by omega]
            exact this
      · cases h
    · 
      rename_i cs s hc ht hs
      obtain ⟨o, pl', ho, hoc, hp', hok⟩ := objC_ok r hc
      rw [hpl] at hp'; cases hp'
      rcases hok with ⟨hn, _⟩ | ⟨_, cells, el, fz, hg, hsz, hle, hro, _⟩
      · rw [hnil] at hn; cases hn
      rw [hoc] at hro
      split at h
      · rename_i hroom
        cases dyn with
        | none =>
          simp only [Option.map_eq_some_iff] at h
          obtain ⟨r', hq, rfl⟩ := h
          simp only [Option.getD_none, Nat.zero_add, Nat.add_zero] at hd1 hv
          refine ⟨_, .agg ((cells.toList.drop (pl.off + base)).take s).toArray, hv, ?_, fun w' hb => ?_⟩
          · rw [RelV, RelX_agg]
            refine ⟨_, rfl, ?_⟩
            rcases subC_rel hro hq with ⟨g1, _⟩ | ⟨g1, g2⟩
            · rw [sub_cells (by omega)] at g1
              exact g1
            · subst g1; subst g2
              simp [RelC_nil]
          · exact run_loadVarN ht hs (hb _ hg) (by omega)
        | some d =>
          simp only [Option.map_eq_some_iff] at h
          obtain ⟨⟨k, q, l⟩, hq, rfl⟩ := h
          obtain ⟨g1, g2, d0, g3, g4⟩ := dynAt_rel hro hq
          simp only [Option.getD_some] at hd1 hv
          dsimp only
          refine ⟨_, .agg ((cells.toList.drop (pl.off + (base + d))).take s).toArray, hv, ?_, fun w' hb => ?_⟩
          · rw [RelV, RelX_agg]
            refine ⟨_, rfl, ?_⟩
            rw [RelC_single, RelX_is, padd_eq]
            refine ⟨by simp; omega, ?_, fun x hx => g2 x (List.mem_of_mem_drop (List.mem_of_mem_take hx))⟩
            have e := take_drop_at (q := q + d) (s := s) g4 (by omega)
            rw [sub_cells (by omega)] at e
            rw [← e, show pl.off + (base + d) = pl.off + (d0 + (q + d)) by omega]
          · exact run_loadVarN ht hs (hb _ hg) (by omega)
      · cases h
    · cases h
  case rptr b off room =>
    simp only [RelV, RelX] at hv
    obtain ⟨pl, hpl, hnil, hv, hd1⟩ := hv
    have hv : v = .pointer (some ⟨pl.blk, pl.off + off, none⟩) := by simpa using hv
    split at h
    · rename_i c _ hc ht
      obtain ⟨o, pl', ho, hoc, hp', hok⟩ := objC_ok r hc
      rw [hpl] at hp'; cases hp'
      rcases hok with ⟨hn, _⟩ | ⟨_, cells, el, fz, hg, hsz, hle, hro, _⟩
      · rw [hnil] at hn; cases hn
      rw [hoc] at hro
      split at h
      · rename_i hroom
        split at h
        · rename_i k l hr
          cases h
          obtain ⟨e1, e2⟩ := rowOf_rel hro hr
          have hlen : l.length = pl.n := by
            have := congrArg List.length e1
            simp at this
            omega
          refine ⟨_, .int k (l.getD off 0), hv, RelX_int.2 ⟨rfl, has_getD e2 _ (by omega), fun m hm => by cases hm⟩, fun w' hb => ?_⟩
          refine run_loadVar1 ht (hb _ hg) (getElem?_cells (n := pl.n) ?_)
          rw [e1]
          exact map_getD (by omega)
        · split at h
          · obtain ⟨u, hu, hxu⟩ := cellAt_rel hro h
            exact ⟨_, u, hv, hxu, fun w' hb => run_loadVar1 ht (hb _ hg) (getElem?_cells hu)⟩
          · split at h
            · rename_i d hr0 hdw
              obtain ⟨e1, e2⟩ := hro
              rw [hdw, Nat.mul_one] at e1
              have hi : off < d.l.length := by
                rw [← e1]
                simp
                omega
              have h2 := e2 off (d.l.getD off d.e.dflt) (by rw [List.getD_eq_getElem?_getD, List.getElem?_eq_getElem hi]; rfl)
              obtain ⟨u, hu, hxu⟩ := cellAt_rel (EK.avs_rel h2) h
              rw [hdw, Nat.mul_one] at hu
              have hu2 := getElem?_cells (getElem?_cells hu)
              exact ⟨_, u, hv, hxu, fun w' hb => run_loadVar1 ht (hb _ hg) (by simpa using hu2)⟩
            · cases h
          · cases h
      · cases h
    · rename_i c s hc ht hs
      obtain ⟨o, pl', ho, hoc, hp', hok⟩ := objC_ok r hc
      rw [hpl] at hp'; cases hp'
      rcases hok with ⟨hn, _⟩ | ⟨_, cells, el, fz, hg, hsz, hle, hro, _⟩
      · rw [hnil] at hn; cases hn
      rw [hoc] at hro
      split at h
      · rename_i hroom
        refine ⟨_, .agg ((cells.toList.drop (pl.off + off)).take s).toArray, hv, ?_, fun w' hb => run_loadVarN ht hs (hb _ hg) (by omega)⟩
        split at h
        · rename_i k l hr
          cases h
          obtain ⟨e1, e2⟩ := rowOf_rel hro hr
          have hlen : l.length = pl.n := by
            have := congrArg List.length e1
            simp at this
            omega
          rw [RelV, RelX_agg]
          refine ⟨_, rfl, ?_⟩
          rw [RelC_single, RelX_is]
          refine ⟨by simp; omega, ?_, fun x hx => e2 x (List.mem_of_mem_drop (List.mem_of_mem_take hx))⟩
          have e := sub_cells (cs := cells.toList) (off := pl.off) (n := pl.n) (o := off) (s := s) (by omega)
          rw [e1] at e
          simp only at e ⊢
          rw [← e]
          simp [List.map_take, List.map_drop]
        · split at h
          · simp only [Option.map_eq_some_iff] at h
            obtain ⟨r', hq, rfl⟩ := h
            rw [RelV, RelX_agg]
            refine ⟨_, rfl, ?_⟩
            rcases subC_rel hro hq with ⟨g1, _⟩ | ⟨g1, g2⟩
            · rw [sub_cells (by omega)] at g1
              exact g1
            · subst g1; subst g2
              simp [RelC_nil]
          · cases h
      · cases h
    · cases h
  case fref k l off room =>
    simp only [RelV, RelX] at hv
    obtain ⟨blk, o, cs, el, fz, hv, hz, hroom, hsz, hcs, hk⟩ := hv
    have hv : v = .pointer (some ⟨blk, o + off, none⟩) := by simpa using hv
    have hg := (r.fz _ _ hz).1
    split at h
    · rename_i ht
      split at h
      · rename_i hr
        cases h
        refine ⟨_, .int k (l.getD off 0), hv, RelX_int.2 ⟨rfl, has_getD hk _ (by omega), fun m hm => by cases hm⟩, fun w' hb => ?_⟩
        refine run_loadVar1 ht (hb _ hg) (getElem?_cells (n := l.length) ?_)
        rw [hcs]
        exact map_getD (by omega)
      · cases h
    · rename_i s ht hs
      split at h
      · rename_i hr
        cases h
        refine ⟨_, .agg ((cs.toList.drop (o + off)).take s).toArray, hv, ?_, fun w' hb => run_loadVarN ht hs (hb _ hg) (by omega)⟩
        rw [RelV, RelX_agg]
        refine ⟨_, rfl, ?_⟩
        rw [RelC_single, RelX_is]
        refine ⟨by simp; omega, ?_, fun x hx => hk x (List.mem_of_mem_drop (List.mem_of_mem_take hx))⟩
        have e := sub_cells (cs := cs.toList) (off := o) (n := l.length) (o := off) (s := s) (by omega)
        rw [hcs] at e
        simp only at e ⊢
        rw [← e]
        simp [List.map_take, List.map_drop]
      · cases h
    · cases h
  case dref d off =>
    simp only [RelV, RelX] at hv
    obtain ⟨blk, o, cs, el, fz, hv, hz, hsz, hrel⟩ := hv
    have hv : v = .pointer (some ⟨blk, o + off, none⟩) := by simpa using hv
    have hg := (r.fz _ _ hz).1
    have hc := EK.avs_rel hrel
    split at h
    · rename_i ht
      obtain ⟨u, hu, hxu⟩ := cellAt_rel hc h
      exact ⟨_, u, hv, hxu, fun w' hb => run_loadVar1 ht (hb _ hg) (getElem?_cells hu)⟩
    · rename_i s ht hs
      split at h
      · rename_i hr
        obtain ⟨rfl, rfl⟩ := hr
        cases h
        refine ⟨_, .agg ((cs.toList.drop (o + 0)).take d.e.w).toArray, hv, ?_, fun w' hb => run_loadVarN ht hs (hb _ hg) (by omega)⟩
        rw [RelV, RelX_agg]
        exact ⟨_, rfl, by simpa using hc⟩
      · cases h
    · cases h
theorem aload_sound {P : Program} {M : List Place} {H : Heap} {B : Base} {w : World} (r : RelH M H B w) {t : TypeId} {p x : AV} {v : Value} (hv : RelV M p v) (h : aload P H t p = some x) :
    ∃ A u, v = .pointer (some A) ∧ RelV M x u ∧ ∀ w', Below w.heap.size w w' → (loadVar t A).run P w' = .ok u w' := by
  obtain ⟨A, u, h1, h2, h3⟩ := aload_at r hv h
  exact ⟨A, u, h1, h2, fun w' hb => h3 w' fun ob ho => below_block hb ho⟩
end Go.AE
set_option linter.unusedVariables false
set_option linter.unusedSimpArgs false
namespace Go.AE
open Go Go.RowKit
def intsOf (k : IntKind) : List Value → Option (List Int)
  | [] => some []
  | .int k' n :: r => if k = k' ∧ inB k n = true then (intsOf k r).map (n :: ·) else none
  | _ => none
def ofScalar : Value → AV
  | .int k n => if inB k n then .int k (some n) n else .undef
  | .bool b => .bool (some b) b
  | .string s => if inB .i64 (bytesL s).length = true then .str (bytesL s) else .undef
  | .pointer none => .nilp
  | .slice none 0 0 => .nils
  | .nilFunc => .nilf
  | .nilIface => .niface
  | _ => .undef
def constCells (vs : List Value) : List AV :=
  match vs with
  | .int k n :: r =>
    match intsOf k (.int k n :: r) with
    | some l => [.is k l.length l]
    | none => vs.map ofScalar
  | _ => vs.map ofScalar
def ofConst : Value → AV
  | .agg vs => .agg (constCells vs.toList)
  | v => ofScalar v
theorem ofScalar_rel (M : List Place) (v : Value) : RelV M (ofScalar v) v := by
  unfold ofScalar
  split
  · split
    · rename_i h
      exact RelX_int.2 ⟨rfl, has_of_inB h, fun m hm => by cases hm; rfl⟩
    · exact relV_undef _ _
  · simp [RelV, RelX]
  · rename_i s
    split
    · rename_i hl
      simp only [RelV, RelX]
      exact ⟨by rw [mkS_bytesL], bytesL_has s, has_of_inB hl⟩
    · exact relV_undef _ _
  · simp [RelV, RelX]
  · simp [RelV, RelX]
  · simp [RelV, RelX]
  · simp [RelV, RelX]
  · exact relV_undef _ _
theorem intsOf_spec {k : IntKind} : ∀ {vs : List Value} {l : List Int}, intsOf k vs = some l → vs = l.map (.int k) ∧ ∀ x ∈ l, k.has x
  | [], l, h => by simp [intsOf] at h; subst h; simp
  | v :: r, l, h => by
    unfold intsOf at h
    split at h
    · rename_i heq; cases heq
    · rename_i k' n r' heq
      injection heq with h1 h2
      subst h1; subst h2
      split at h
      · rename_i hk
        obtain ⟨rfl, hb⟩ := hk
        simp only [Option.map_eq_some_iff] at h
        obtain ⟨l', hl, rfl⟩ := h
        obtain ⟨e1, e2⟩ := intsOf_spec hl
        refine ⟨by simp [e1], fun x hx => ?_⟩
        rcases List.mem_cons.1 hx with rfl | hx
        · exact has_of_inB hb
        · exact e2 x hx
      · cases h
    · cases h
theorem map_ofScalar_rel (M : List Place) : ∀ (vs : List Value), RelC M (vs.map ofScalar) vs
  | [] => RelC_nil.2 rfl
  | v :: r => RelC_cons.2 ⟨[v], r, rfl, ofScalar_rel M v, map_ofScalar_rel M r⟩
theorem constCells_rel (M : List Place) (vs : List Value) : RelC M (constCells vs) vs := by
  unfold constCells
  split
  · split
    · rename_i l hl
      obtain ⟨e1, e2⟩ := intsOf_spec hl
      rw [RelC_single, RelX_is]
      exact ⟨rfl, e1, e2⟩
    · exact map_ofScalar_rel M _
  · exact map_ofScalar_rel M _
theorem ofConst_rel (M : List Place) (v : Value) : RelV M (ofConst v) v := by
  unfold ofConst
  split
  · rename_i vs
    exact RelX_agg.2 ⟨vs, rfl, constCells_rel M _⟩
  · exact ofScalar_rel M v
def St.get (st : St) : Operand → AV
  | .tmp t => st.tmps.getD t .undef
  | .const v => ofConst v
  | .func f => .fn f [] []
  | .global _ => .undef
theorem get_rel {M : List Place} {st : St} {a : Act} (h : RelT M st.tmps a.tmps) (x : Operand) : RelV M (st.get x) (a.eval x) := by
  cases x with
  | tmp t => exact h.2 t
  | const v => exact ofConst_rel M v
  | global g => exact relV_undef _ _
  | func f => simp only [St.get, RelV, RelX, Act.eval]; exact ⟨#[], #[], rfl, RelL_nil.2 rfl, RelL_nil.2 rfl⟩
def unInt (op : UnOp) (k : IntKind) (l : Option Int) (x : Int) : Option AV :=
  match op with
  | .neg => some (litI k (l.map fun m => fw k (0 - m)) (k.wrap (0 - x)))
  | .xor => some (litI k (l.map fun m => ixor k (if k.signed then -1 else k.max) m) (ixor k (if k.signed then -1 else k.max) x))
  | _ => none
def aun (op : UnOp) : AV → Option AV
  | .int k l x => unInt op k l x
  | .bool l x => match op with
    | .not => some (litB (l.map (!·)) (!x))
    | _ => none
  | _ => none
theorem relV_int {M : List Place} {k : IntKind} {l : Option Int} {x : Int} {v : Value} (h : RelV M (.int k l x) v) : v = .int k x ∧ k.has x ∧ ∀ m, l = some m → x = m := by
  obtain ⟨h1, h2, h3⟩ := RelX_int.1 h
  exact ⟨by simpa using h1, h2, h3⟩
theorem relV_bool {M : List Place} {l : Option Bool} {x : Bool} {v : Value} (h : RelV M (.bool l x) v) : v = .bool x ∧ ∀ m, l = some m → x = m := by
  simp only [RelV, RelX] at h
  exact ⟨by simpa using h.1, h.2⟩
theorem aun_sound {P : Program} {M : List Place} {ρ : Operand → Value} {o : Oper} {op : UnOp} {t : TypeId} {x : Operand} (ho : o.op = .unOp op t x) {a : AV} (hx : RelV M a (ρ x))
    {r : AV} (h : aun op a = some r) : ∃ v, RelV M r v ∧ ∀ w, (execOp ρ o).run P w = .ok (.value v) w := by
  cases a <;> simp only [aun, reduceCtorEq] at h
  case int k l n =>
    obtain ⟨e, hk, hl⟩ := relV_int hx
    cases op <;> simp only [unInt, Option.some.injEq, reduceCtorEq] at h <;> subst h
    · refine ⟨_, relV_litI (wrap_has k (0 - n)) (fun m hm => ?_), fun w => ?_⟩
      · cases l <;> simp at hm
        rw [← hm, fw_eq, hl _ rfl]; simp
      · simp [execOp, ho, e, Op.unary, Op.intArith, bind, pure, Sem.bind]
    · refine ⟨_, relV_litI (wrap_has k _) (fun m hm => ?_), fun w => ?_⟩
      · cases l <;> simp at hm
        rw [← hm, hl _ rfl]
      · simp [execOp, ho, e, Op.unary, Op.intBits, bind, pure, Sem.bind, ixor]
  case bool l b =>
    obtain ⟨e, hl⟩ := relV_bool hx
    cases op <;> simp only [Option.some.injEq, reduceCtorEq] at h
    subst h
    refine ⟨_, relV_litB (x := !b) (fun m hm => ?_), fun w => ?_⟩
    · cases l <;> simp at hm
      rw [hl _ rfl, hm]; simp
    · simp [execOp, ho, e, Op.unary, bind, pure, Sem.bind]
def fitsK (k k' : IntKind) : Bool := decide (loB k' ≤ loB k) && decide (hiB k ≤ hiB k')
theorem fitsK_has {k k' : IntKind} (h : fitsK k k' = true) {n : Int} (hn : k.has n) : k'.has n := by
  simp only [fitsK, Bool.and_eq_true, decide_eq_true_eq] at h
  rw [has_iff] at *
  omega
def aconv (P : Program) (s d : TypeId) : AV → Option AV
  | .int k l x => match P.underlying s, P.underlying d with
    | some (.int _), some (.int k') => some (if fitsK k k' then litI k' l x else litI k' (l.map (fw k')) (k'.wrap x))
    | _, _ => none
  | _ => none
theorem aconv_sound {P : Program} {M : List Place} {ρ : Operand → Value} {o : Oper} {s d : TypeId} {x : Operand} (ho : o.op = .convert s d x) {a : AV} (hx : RelV M a (ρ x))
    {r : AV} (h : aconv P s d a = some r) : ∃ v, RelV M r v ∧ ∀ w, (execOp ρ o).run P w = .ok (.value v) w := by
  cases a <;> simp only [aconv, reduceCtorEq] at h
  case int k l n =>
    obtain ⟨e, hk, hl⟩ := relV_int hx
    split at h
    · rename_i k0 k' hs hd
      simp only [Option.some.injEq] at h
      subst h
      refine ⟨.int k' (k'.wrap n), ?_, fun w => ?_⟩
      · split
        · rename_i hf
          rw [wrap_id (fitsK_has hf hk)]
          exact relV_litI (fitsK_has hf hk) hl
        · refine relV_litI (wrap_has k' n) (fun m hm => ?_)
          cases l <;> simp at hm
          rw [← hm, fw_eq, hl _ rfl]
      · simp [execOp, ho, e, convert, run_underlying hs, run_underlying hd, Conv.intToInt]
    · cases h
def fieldOf (P : Program) (t : TypeId) (f : Nat) : Option (Nat × Nat × Bool) :=
  match P.underlying t with
  | some (.struct fs) => match fs[f]? with
    | some fl => match sizeT P fl.type, isAggT P fl.type with
      | some s, some g => if 1 ≤ s then some (fl.offset, s, g) else none
      | _, _ => none
    | none => none
  | _ => none
def afieldAddr (P : Program) (t : TypeId) (f : Nat) : AV → Option AV
  | .ptr b base dyn room span => match fieldOf P t f with
    | some (fo, s, _) => if fo + s ≤ room then
        (match dyn with
         | none => some (.ptr b (base + fo) none s s)
         | some d => some (.ptr b base (some (padd fo d)) s span))
      else none
    | none => none
  | .rptr b off room => match fieldOf P t f with
    | some (fo, s, _) => if fo + s ≤ room then some (.rptr b (off + fo) s) else none
    | none => none
  | .dref d off => match fieldOf P t f with
    | some (fo, _, _) => some (.dref d (off + fo))
    | none => none
  | _ => none
theorem fieldOf_spec {P : Program} {t : TypeId} {f fo s : Nat} {g : Bool} (h : fieldOf P t f = some (fo, s, g)) :
    ∃ fs fl, P.underlying t = some (.struct fs) ∧ fs[f]? = some fl ∧ fl.offset = fo ∧ sizeT P fl.type = some s ∧ isAggT P fl.type = some g ∧ 1 ≤ s := by
  unfold fieldOf at h
  split at h
  · rename_i fs hu
    split at h
    · rename_i fl hf
      split at h
      · rename_i s' g' hs hg
        split at h
        · cases h
          exact ⟨fs, fl, hu, hf, rfl, hs, hg, ‹_›⟩
        · cases h
      · cases h
    · cases h
  · cases h
theorem run_fieldAddr {P : Program} {ρ : Operand → Value} {o : Oper} {t : TypeId} {x : Operand} {f : Nat} (ho : o.op = .fieldAddr t x f) {fo s : Nat} {g : Bool} (hf : fieldOf P t f = some (fo, s, g)) {b c : Nat}
    (hx : ρ x = .pointer (some ⟨b, c, none⟩)) (w : World) : (execOp ρ o).run P w = .ok (.value (.pointer (some ⟨b, c + fo, none⟩))) w := by
  obtain ⟨fs, fl, hu, hfl, hfo, hs, _, h1⟩ := fieldOf_spec hf
  have h0 : s ≠ 0 := by omega
  simp [execOp, ho, hx, Instr.fieldAt, run_underlying hu, hfl, Instr.sureAddr, fieldPlace, run_sizeT hs, h0, hfo, addr_add]
theorem afieldAddr_sound {P : Program} {M : List Place} {ρ : Operand → Value} {o : Oper} {t : TypeId} {x : Operand} {f : Nat} (ho : o.op = .fieldAddr t x f) {a : AV} (hx : RelV M a (ρ x))
    {r : AV} (h : afieldAddr P t f a = some r) : ∃ v, RelV M r v ∧ ∀ w, (execOp ρ o).run P w = .ok (.value v) w := by
  cases a <;> simp only [afieldAddr, reduceCtorEq] at h
  case ptr b base dyn room span =>
    simp only [RelV, RelX] at hx
    obtain ⟨pl, hpl, hnil, hv, hd1, hd2⟩ := hx
    have hv : ρ x = .pointer (some ⟨pl.blk, pl.off + (base + dyn.getD 0), none⟩) := by simpa using hv
    split at h
    · rename_i fo s g hf
      split at h
      · rename_i hr
        refine ⟨_, ?_, fun w => run_fieldAddr ho hf hv w⟩
        cases dyn with
        | none =>
          cases h
          simp only [RelV, RelX]
          simp only [Option.getD_none] at *
          exact ⟨pl, hpl, hnil, by simp [Nat.add_assoc], by omega, by omega⟩
        | some d =>
          cases h
          simp only [RelV, RelX, padd_eq]
          simp only [Option.getD_some] at *
          refine ⟨pl, hpl, hnil, ?_, by omega, by omega⟩
          simp only [List.cons.injEq, Value.pointer.injEq, Option.some.injEq, Addr.mk.injEq, and_true, true_and]
          omega
      · cases h
    · cases h
  case rptr b off room =>
    simp only [RelV, RelX] at hx
    obtain ⟨pl, hpl, hnil, hv, hd1⟩ := hx
    have hv : ρ x = .pointer (some ⟨pl.blk, pl.off + off, none⟩) := by simpa using hv
    split at h
    · rename_i fo s g hf
      split at h
      · cases h
        refine ⟨_, ?_, fun w => run_fieldAddr ho hf hv w⟩
        simp only [RelV, RelX]
        exact ⟨pl, hpl, hnil, by simp [Nat.add_assoc], by omega⟩
      · cases h
    · cases h
  case dref d off =>
    simp only [RelV, RelX] at hx
    obtain ⟨blk, o, cs, el, fz, hv, hz, hsz, hrel⟩ := hx
    have hv : ρ x = .pointer (some ⟨blk, o + off, none⟩) := by simpa using hv
    split at h
    · rename_i fo s g hf
      cases h
      refine ⟨_, ?_, fun w => run_fieldAddr ho hf hv w⟩
      simp only [RelV, RelX]
      exact ⟨blk, o, cs, el, fz, by simp [Nat.add_assoc], hz, hsz, hrel⟩
    · cases h
def apart (g : Bool) (s : Nat) (cs : List AV) (off : Nat) : Option AV :=
  if g then (subC cs off s).map .agg else cellAt cs off
theorem apart_sound {P : Program} {M : List Place} {cs : List AV} {vs : Array Value} (hc : RelC M cs vs.toList) {t : TypeId} {g : Bool} {s off : Nat} (hs : sizeT P t = some s) (hg : isAggT P t = some g) {r : AV}
    (h : apart g s cs off = some r) : ∃ v, RelV M r v ∧ ∀ w, (part t vs off).run P w = .ok v w := by
  unfold apart at h
  cases g with
  | true =>
    simp only [if_true, Option.map_eq_some_iff] at h
    obtain ⟨r', hr, rfl⟩ := h
    refine ⟨.agg (vs.extract off (off + s)), ?_, fun w => by simp [part, run_isAgg hg, run_sizeT hs]⟩
    rw [RelV, RelX_agg]
    refine ⟨_, rfl, ?_⟩
    have e : (vs.extract off (off + s)).toList = (vs.toList.drop off).take s := by
      simp
    rw [e]
    rcases subC_rel hc hr with ⟨g1, _⟩ | ⟨g1, g2⟩
    · exact g1
    · subst g1; subst g2; simp [RelC_nil]
  | false =>
    simp only [Bool.false_eq_true, if_false] at h
    obtain ⟨v, hv, hr⟩ := cellAt_rel hc h
    exact ⟨v, hr, fun w => by simp [part, run_isAgg hg, show vs[off]? = some v by simpa using hv]⟩
def afield (P : Program) (t : TypeId) (f : Nat) : AV → Option AV
  | .agg cs => match fieldOf P t f with
    | some (fo, s, g) => apart g s cs fo
    | none => none
  | _ => none
theorem afield_sound {P : Program} {M : List Place} {ρ : Operand → Value} {o : Oper} {t : TypeId} {x : Operand} {f : Nat} (ho : o.op = .field t x f) {a : AV} (hx : RelV M a (ρ x))
    {r : AV} (h : afield P t f a = some r) : ∃ v, RelV M r v ∧ ∀ w, (execOp ρ o).run P w = .ok (.value v) w := by
  cases a <;> simp only [afield, reduceCtorEq] at h
  case agg cs =>
    obtain ⟨vs, hv, hc⟩ := RelX_agg.1 hx
    have hv : ρ x = .agg vs := by simpa using hv
    split at h
    · rename_i fo s g hf
      obtain ⟨fs, fl, hu, hfl, hfo, hs, hg, h1⟩ := fieldOf_spec hf
      obtain ⟨v, hr, hrun⟩ := apart_sound hc hs hg h
      refine ⟨v, hr, fun w => ?_⟩
      simp [execOp, ho, hv, Instr.field, run_underlying hu, hfl, asAgg, hfo, hrun w]
    · cases h
def mul1 (i s : Nat) : Nat := match s with | 1 => i | s => i * s
theorem mul1_eq (i s : Nat) : mul1 i s = i * s := by unfold mul1; split <;> simp
def reqIx (l : Option Int) (i : Int) (n : Nat) : Bool :=
  match l with
  | some m => decide (0 ≤ m) && decide (m < n)
  | none => decide (0 ≤ i) && decide (i < n)
theorem reqIx_spec {l : Option Int} {i : Int} {n : Nat} (hl : ∀ m, l = some m → i = m) (h : reqIx l i n = true) : 0 ≤ i ∧ i < n := by
  cases l with
  | none => simpa [reqIx] using h
  | some m => have := hl m rfl; subst this; simpa [reqIx] using h
def elemOfArr (P : Program) (t : TypeId) : Option (Nat × Nat × Bool) :=
  match P.underlying t with
  | some (.array n e) => match sizeT P e, isAggT P e with
    | some s, some g => if 1 ≤ s then some (n, s, g) else none
    | _, _ => none
  | _ => none
def elemOfSl (P : Program) (t : TypeId) : Option Nat :=
  match P.underlying t with
  | some (.slice e) => sizeT P e
  | _ => none
def aindexAddr (P : Program) (t : TypeId) : AV → AV → Option (Bool × AV)
  | .ptr b base dyn room span, .int _ l i => match elemOfArr P t with
    | some (n, s, _) => if n * s ≤ room then
        (match l, dyn with
         | some m, none => some (reqIx l i n, .ptr b (base + m.toNat * s) none s s)
         | some m, some d => some (reqIx l i n, .ptr b base (some (padd (m.toNat * s) d)) s span)
         | none, none => some (reqIx l i n, .ptr b base (some (mul1 i.toNat s)) s (n * s))
         | none, some d => some (reqIx l i n, .ptr b base (some (d + mul1 i.toNat s)) s span))
      else none
    | none => none
  | .sl b off len sz _, .int _ l i => match elemOfSl P t with
    | some s => if s = sz then some (reqIx l i len, .rptr b (padd off (mul1 i.toNat s)) s) else none
    | none => none
  | .rptr b off room, .int _ l i => match elemOfArr P t with
    | some (n, s, _) => if n * s ≤ room then
        (match l with
         | some m => some (reqIx l i n, .rptr b (padd (m.toNat * s) off) s)
         | none => some (reqIx l i n, .rptr b (off + mul1 i.toNat s) s))
      else none
    | none => none
  | .fsl k sz xs, .int _ l i => match elemOfSl P t with
    | some s => if s = sz ∧ sz = 1 then some (reqIx l i xs.length, .fref k xs i.toNat 1) else none
    | none => none
  | .dsl d, .int _ l i => match elemOfSl P t with
    | some s => if s = d.e.w then some (reqIx l i d.l.length, .dref ⟨d.e, d.l.getD i.toNat d.e.dflt⟩ 0) else none
    | none => none
  | _, _ => none
theorem elemOfArr_spec {P : Program} {t : TypeId} {n s : Nat} {g : Bool} (h : elemOfArr P t = some (n, s, g)) : ∃ e, P.underlying t = some (.array n e) ∧ sizeT P e = some s ∧ isAggT P e = some g ∧ 1 ≤ s := by
  unfold elemOfArr at h
  split at h
  · rename_i n' e hu
    split at h
    · rename_i s' g' hs hg
      split at h
      · cases h
        exact ⟨e, hu, hs, hg, ‹_›⟩
      · cases h
    · cases h
  · cases h
theorem elemOfSl_spec {P : Program} {t : TypeId} {s : Nat} (h : elemOfSl P t = some s) : ∃ e, P.underlying t = some (.slice e) ∧ sizeT P e = some s := by
  unfold elemOfSl at h
  split at h
  · rename_i e hu
    exact ⟨e, hu, h⟩
  · cases h
theorem run_indexArr {P : Program} {ρ : Operand → Value} {o : Oper} {t e : TypeId} {x y : Operand} (ho : o.op = .indexAddr t x y) {n s : Nat} (hu : P.underlying t = some (.array n e)) (hs : sizeT P e = some s) {b c : Nat} {k : IntKind} {i : Int}
    (hx : ρ x = .pointer (some ⟨b, c, none⟩)) (hy : ρ y = .int k i) (h0 : 0 ≤ i) (h1 : i < n) (w : World) :
    (execOp ρ o).run P w = .ok (.value (.pointer (some ⟨b, c + i.toNat * s, none⟩))) w := by
  simp [execOp, ho, hx, hy, Instr.indexAt, asIntOf, run_underlying hu, Instr.sureAddr, h0, h1, run_sizeT hs, addr_add]
theorem run_indexSl {P : Program} {ρ : Operand → Value} {o : Oper} {t e : TypeId} {x y : Operand} (ho : o.op = .indexAddr t x y) {s len cap : Nat} (hu : P.underlying t = some (.slice e)) (hs : sizeT P e = some s) {b c : Nat} {k : IntKind} {i : Int}
    (hx : ρ x = .slice (some ⟨b, c, none⟩) len cap) (hy : ρ y = .int k i) (h0 : 0 ≤ i) (h1 : i < len) (w : World) :
    (execOp ρ o).run P w = .ok (.value (.pointer (some ⟨b, c + i.toNat * s, none⟩))) w := by
  simp [execOp, ho, hx, hy, Instr.indexAt, asIntOf, run_underlying hu, h0, h1, run_sizeT hs, addr_add]
theorem mul_lt {i n s : Nat} (h : i < n) : i * s + s ≤ n * s := by
  have : (i + 1) * s ≤ n * s := Nat.mul_le_mul_right s h
  rw [Nat.add_mul, Nat.one_mul] at this
  exact this
theorem aindexAddr_sound {P : Program} {M : List Place} {ρ : Operand → Value} {o : Oper} {t : TypeId} {x y : Operand} (ho : o.op = .indexAddr t x y) {a c : AV} (hx : RelV M a (ρ x)) (hy : RelV M c (ρ y))
    {req : Bool} {r : AV} (h : aindexAddr P t a c = some (req, r)) (hreq : req = true) : ∃ v, RelV M r v ∧ ∀ w, (execOp ρ o).run P w = .ok (.value v) w := by
  subst hreq
  cases a <;> try (cases h; done)
  case ptr b base dyn room span =>
    cases c <;> simp only [aindexAddr, reduceCtorEq] at h
    rename_i k l i
    obtain ⟨hye, hk, hl⟩ := relV_int hy
    simp only [RelV, RelX] at hx
    obtain ⟨pl, hpl, hnil, hv, hd1, hd2⟩ := hx
    have hv : ρ x = .pointer (some ⟨pl.blk, pl.off + (base + dyn.getD 0), none⟩) := by simpa using hv
    split at h
    · rename_i n s g he
      obtain ⟨e, hu, hs, _, _⟩ := elemOfArr_spec he
      split at h
      · rename_i hr
        have hq : reqIx l i n = true := by
          cases l <;> cases dyn <;> simp only [Option.some.injEq, Prod.mk.injEq] at h <;> exact h.1
        obtain ⟨h0, h1⟩ := reqIx_spec hl hq
        have hin : i.toNat < n := by omega
        have hm := mul_lt (s := s) hin
        refine ⟨_, ?_, fun w => run_indexArr ho hu hs hv hye h0 h1 w⟩
        cases l with
        | some m =>
          have := hl m rfl
          subst this
          cases dyn with
          | none =>
            simp only [Option.some.injEq, Prod.mk.injEq] at h
            rw [← h.2]
            simp only [Option.getD_none] at *
            simp only [RelV, RelX]
            exact ⟨pl, hpl, hnil, by simp [Nat.add_assoc], by simp, by omega⟩
          | some d =>
            simp only [Option.some.injEq, Prod.mk.injEq] at h
            rw [← h.2]
            simp only [Option.getD_some] at *
            simp only [RelV, RelX, padd_eq, Option.getD_some]
            refine ⟨pl, hpl, hnil, ?_, by omega, by omega⟩
            simp only [List.cons.injEq, Value.pointer.injEq, Option.some.injEq, Addr.mk.injEq, and_true, true_and]
            omega
        | none =>
          cases dyn with
          | none =>
            simp only [Option.some.injEq, Prod.mk.injEq] at h
            rw [← h.2]
            simp only [Option.getD_none] at *
            simp only [RelV, RelX, mul1_eq, Option.getD_some]
            exact ⟨pl, hpl, hnil, by simp [Nat.add_assoc], by omega, by omega⟩
          | some d =>
            simp only [Option.some.injEq, Prod.mk.injEq] at h
            rw [← h.2]
            simp only [Option.getD_some] at *
            simp only [RelV, RelX, mul1_eq, Option.getD_some]
            exact ⟨pl, hpl, hnil, by simp [Nat.add_assoc], by omega, by omega⟩
      · cases h
    · cases h
  case rptr b off room =>
    cases c <;> simp only [aindexAddr, reduceCtorEq] at h
    rename_i k l i
    obtain ⟨hye, hk, hl⟩ := relV_int hy
    simp only [RelV, RelX] at hx
    obtain ⟨pl, hpl, hnil, hv, hd⟩ := hx
    have hv : ρ x = .pointer (some ⟨pl.blk, pl.off + off, none⟩) := by simpa using hv
    split at h
    · rename_i n s g he
      obtain ⟨e, hu, hs, _, _⟩ := elemOfArr_spec he
      split at h
      · rename_i hr
        have hq : reqIx l i n = true := by
          cases l <;> simp only [Option.some.injEq, Prod.mk.injEq] at h <;> exact h.1
        obtain ⟨h0, h1⟩ := reqIx_spec hl hq
        have hin : i.toNat < n := by omega
        have hm := mul_lt (s := s) hin
        refine ⟨_, ?_, fun w => run_indexArr ho hu hs hv hye h0 h1 w⟩
        cases l with
        | some m =>
          have := hl m rfl
          subst this
          simp only [Option.some.injEq, Prod.mk.injEq] at h
          rw [← h.2]
          simp only [RelV, RelX, padd_eq]
          refine ⟨pl, hpl, hnil, ?_, by omega⟩
          simp only [List.cons.injEq, Value.pointer.injEq, Option.some.injEq, Addr.mk.injEq, and_true, true_and]
          omega
        | none =>
          simp only [Option.some.injEq, Prod.mk.injEq] at h
          rw [← h.2]
          simp only [RelV, RelX, mul1_eq]
          exact ⟨pl, hpl, hnil, by simp [Nat.add_assoc], by omega⟩
      · cases h
    · cases h
  case sl b off len sz cc =>
    cases c <;> simp only [aindexAddr, reduceCtorEq] at h
    rename_i k l i
    obtain ⟨hye, hk, hl⟩ := relV_int hy
    simp only [RelV, RelX] at hx
    obtain ⟨pl, A, cap, hpl, hv, hb, hcap, hnil, hnn, _⟩ := hx
    have hv : ρ x = .slice A len cap := by simpa using hv
    split at h
    · rename_i s he
      obtain ⟨e, hu, hs⟩ := elemOfSl_spec he
      split at h
      · rename_i hsz
        subst hsz
        simp only [Option.some.injEq, Prod.mk.injEq] at h
        obtain ⟨h0, h1⟩ := reqIx_spec hl h.1
        have hin : i.toNat < len := by omega
        have hm := mul_lt (s := s) hin
        have hpn : pl.nil = false := by
          cases hq : pl.nil with
          | false => rfl
          | true => have := (hnil hq).2; omega
        have hA := (hnn hpn).2 (.inl (by omega))
        subst hA
        refine ⟨_, ?_, fun w => run_indexSl ho hu hs hv hye h0 h1 w⟩
        rw [← h.2]
        simp only [RelV, RelX, padd_eq, mul1_eq]
        exact ⟨pl, hpl, hpn, by simp [Nat.add_assoc], by omega⟩
      · cases h
    · cases h
  case fsl kk sz xs =>
    cases c <;> simp only [aindexAddr, reduceCtorEq] at h
    rename_i k l i
    obtain ⟨hye, hk, hl⟩ := relV_int hy
    simp only [RelV, RelX] at hx
    obtain ⟨v, hv, A, len, cap, rfl, hcap, hlen, _, hks, hz⟩ := hx
    have hv : ρ x = .slice A len cap := by simpa using hv
    split at h
    · rename_i s he
      obtain ⟨e, hu, hs⟩ := elemOfSl_spec he
      split at h
      · rename_i hsz
        obtain ⟨rfl, rfl⟩ := hsz
        simp only [Option.some.injEq, Prod.mk.injEq] at h
        obtain ⟨h0, h1⟩ := reqIx_spec hl h.1
        have hin : i.toNat < len := by omega
        rcases hz with hz | ⟨blk, off, cs, el, fz, rfl, hz, hle, hcs⟩
        · omega
        refine ⟨_, ?_, fun w => run_indexSl ho hu hs hv hye h0 (by omega) w⟩
        rw [← h.2]
        simp only [RelV, RelX, Nat.mul_one] at *
        exact ⟨blk, off, cs, el, fz, rfl, hz, by omega, by omega, by rw [hlen]; exact hcs, hks⟩
      · cases h
    · cases h
  case dsl d =>
    cases c <;> simp only [aindexAddr, reduceCtorEq] at h
    rename_i k l i
    obtain ⟨hye, hk, hl⟩ := relV_int hy
    simp only [RelV, RelX] at hx
    obtain ⟨v, hv, A, len, cap, rfl, hcap, hlen, _, hz⟩ := hx
    have hv : ρ x = .slice A len cap := by simpa using hv
    split at h
    · rename_i s he
      obtain ⟨e, hu, hs⟩ := elemOfSl_spec he
      split at h
      · rename_i hsz
        subst hsz
        simp only [Option.some.injEq, Prod.mk.injEq] at h
        obtain ⟨h0, h1⟩ := reqIx_spec hl h.1
        have hin : i.toNat < len := by omega
        have hm := mul_lt (s := d.e.w) hin
        rcases hz with hz | ⟨blk, off, cs, el, fz, rfl, hz, hle, hcs⟩
        · omega
        refine ⟨_, ?_, fun w => run_indexSl ho hu hs hv hye h0 (by omega) w⟩
        rw [← h.2]
        simp only [RelV, RelX]
        refine ⟨blk, off + i.toNat * d.e.w, cs, el, fz, rfl, hz, by omega, hcs _ _ ?_⟩
        rw [List.getD_eq_getElem?_getD, List.getElem?_eq_getElem (by omega)]
        rfl
      · cases h
    · cases h
def aindex (P : Program) (t : TypeId) : AV → AV → Option (Bool × AV)
  | .agg cs, .int _ l i => match elemOfArr P t with
    | some (n, s, g) => match l with
      | some m => (apart g s cs (m.toNat * s)).map fun r => (reqIx l i n, r)
      | none => (dynAt cs 0 (n * s)).map fun x => (reqIx l i n, if g then .agg [.is x.1 s ((x.2.2.drop (padd x.2.1 (mul1 i.toNat s))).take s)] else .int x.1 none (x.2.2.getD (padd x.2.1 (mul1 i.toNat s)) 0))
    | none => none
  | .str l, .int _ li i => match P.underlying t with
    | some .string => some (reqIx li i l.length, .int .u8 none (l.getD i.toNat 0))
    | _ => none
  | _, _ => none
theorem aindex_sound {P : Program} {M : List Place} {ρ : Operand → Value} {o : Oper} {t : TypeId} {x y : Operand} (ho : o.op = .index t x y) {a c : AV} (hx : RelV M a (ρ x)) (hy : RelV M c (ρ y))
    {req : Bool} {r : AV} (h : aindex P t a c = some (req, r)) (hreq : req = true) : ∃ v, RelV M r v ∧ ∀ w, (execOp ρ o).run P w = .ok (.value v) w := by
  subst hreq
  cases a <;> try (cases h; done)
  case str s =>
    cases c <;> simp only [aindex, reduceCtorEq] at h
    rename_i k l i
    obtain ⟨hye, hk, hl⟩ := relV_int hy
    split at h
    · rename_i hu
      simp only [Option.some.injEq, Prod.mk.injEq] at h
      obtain ⟨hq, rfl⟩ := h
      obtain ⟨h0, h1⟩ := reqIx_spec hl hq
      simp only [RelV, RelX] at hx
      have hxs : ρ x = .string (mkS s) := by simpa using hx.1
      have hin : i.toNat < s.length := by omega
      have hb := hx.2.1 (s.getD i.toNat 0) (by rw [List.getD_eq_getElem?_getD, List.getElem?_eq_getElem hin]; exact List.getElem_mem hin)
      have hu8 := u8_back hb
      refine ⟨.int .u8 (s.getD i.toNat 0), RelX_int.2 ⟨rfl, has_iff.2 hb, fun m hm => by cases hm⟩, fun w => ?_⟩
      simp [execOp, ho, hxs, hye, Instr.index, asIntOf, run_underlying hu, h0, mkS_get s _ hin]
      rw [← List.getD_eq_getElem?_getD]
      omega
    · cases h
  case agg cs =>
    cases c <;> simp only [aindex, reduceCtorEq] at h
    rename_i k l i
    obtain ⟨hye, hk, hl⟩ := relV_int hy
    obtain ⟨vs, hv, hc⟩ := RelX_agg.1 hx
    have hv : ρ x = .agg vs := by simpa using hv
    split at h
    · rename_i n s g he
      obtain ⟨e, hu, hs, hg, h1s⟩ := elemOfArr_spec he
      have key : 0 ≤ i → i < n → ∀ v, (∀ w, (part e vs (i.toNat * s)).run P w = .ok v w) → ∀ w, (execOp ρ o).run P w = .ok (.value v) w := by
        intro h0 h1 v hp w
        simp [execOp, ho, hv, hye, Instr.index, asIntOf, run_underlying hu, h0, h1, run_sizeT hs, hp w]
      cases l with
      | some m =>
        simp only [Option.map_eq_some_iff, Prod.mk.injEq] at h
        obtain ⟨r', hr, hq, rfl⟩ := h
        obtain ⟨h0, h1⟩ := reqIx_spec hl hq
        have := hl m rfl
        subst this
        obtain ⟨v, hv1, hv2⟩ := apart_sound hc hs hg hr
        exact ⟨v, hv1, key h0 h1 v hv2⟩
      | none =>
        simp only [Option.map_eq_some_iff, Prod.mk.injEq] at h
        obtain ⟨⟨k', q, l'⟩, hr, hq, rfl⟩ := h
        obtain ⟨h0, h1⟩ := reqIx_spec hl hq
        have hin : i.toNat < n := by omega
        have hm := mul_lt (s := s) hin
        obtain ⟨g1, g2, d, g3, g4⟩ := dynAt_rel hc hr
        have hd : d = 0 ∧ q = 0 := by omega
        obtain ⟨rfl, rfl⟩ := hd
        simp only [padd, mul1_eq]
        simp only [Nat.zero_add] at g1 g4
        cases g with
        | false =>
          simp only [Bool.false_eq_true, if_false]
          refine ⟨.int k' (l'.getD (i.toNat * s) 0), RelX_int.2 ⟨rfl, has_getD g2 _ (by omega), fun m hm => by cases hm⟩, key h0 h1 _ fun w => ?_⟩
          have := g4 (i.toNat * s) (by omega)
          simp [part, run_isAgg hg, show vs[i.toNat * s]? = some (.int k' (l'.getD (i.toNat * s) 0)) by simpa using this]
        | true =>
          simp only [if_true]
          refine ⟨.agg (vs.extract (i.toNat * s) (i.toNat * s + s)), ?_, key h0 h1 _ fun w => by simp [part, run_isAgg hg, run_sizeT hs]⟩
          rw [RelV, RelX_agg]
          refine ⟨_, rfl, ?_⟩
          rw [RelC_single, RelX_is]
          refine ⟨by simp; omega, ?_, fun x hx => g2 x (List.mem_of_mem_drop (List.mem_of_mem_take hx))⟩
          have e := take_drop_at (vs := vs.toList) (l := l') (k := k') (d := 0) (q := i.toNat * s) (s := s) (fun j hj => by rw [Nat.zero_add]; exact g4 j hj) (by omega)
          rw [Nat.zero_add] at e
          rw [← e]
          simp
    · cases h
end Go.AE
set_option linter.unusedVariables false
set_option linter.unusedSimpArgs false
namespace Go.AE
open Go Go.RowKit
def scal : AV → Bool
  | .undef | .agg _ | .tup _ | .is _ _ _ => false
  | _ => true
theorem scal_one {M : List Place} {x : AV} {a : List Value} (h : scal x = true) (r : RelX M x a) : ∃ v, a = [v] ∧ v.oneCell' = true := by
  cases x <;> simp only [scal, Bool.false_eq_true] at h <;> simp only [RelX] at r
  case int => exact ⟨_, r.1, rfl⟩
  case bool => exact ⟨_, r.1, rfl⟩
  case str => exact ⟨_, r.1, rfl⟩
  case nilp | nils | nilf | niface => exact ⟨_, r, rfl⟩
  case ptr => obtain ⟨_, _, _, e, _⟩ := r; exact ⟨_, e, rfl⟩
  case rptr => obtain ⟨_, _, _, e, _⟩ := r; exact ⟨_, e, rfl⟩
  case sl => obtain ⟨_, _, _, _, e, _⟩ := r; exact ⟨_, e, rfl⟩
  case fn => obtain ⟨_, _, e, _⟩ := r; exact ⟨_, e, rfl⟩
  case iface => obtain ⟨_, e, _⟩ := r; exact ⟨_, e, rfl⟩
  case fsl => obtain ⟨_, e, _, _, _, rfl, _⟩ := r; exact ⟨_, e, rfl⟩
  case dsl => obtain ⟨_, e, _, _, _, rfl, _⟩ := r; exact ⟨_, e, rfl⟩
  case fref | dref => obtain ⟨_, _, _, _, _, e, _⟩ := r; exact ⟨_, e, rfl⟩
  case mapc => obtain ⟨_, _, _, e, _⟩ := r; exact ⟨_, e, rfl⟩
  case mp | itr | yld => exact ⟨_, r, rfl⟩
def put1 : List AV → Nat → AV → Option (List AV)
  | [], _, _ => none
  | .is k n l :: r, s, y =>
    if n ≤ s then (put1 r (s - n) y).map (.is k n l :: ·)
    else match y with
      | .int k' _ x => if k' = k then some (.is k n (l.set s x) :: r) else none
      | .is k' m l' => if k' = k ∧ s + m ≤ n then some (.is k n (if s = 0 ∧ m = n then l' else l.take s ++ l' ++ l.drop (s + m)) :: r) else none
      | _ => none
  | _ :: r, 0, y => if scal y then some (y :: r) else none
  | x :: r, s + 1, y => (put1 r s y).map (x :: ·)
theorem set_map {k : IntKind} {l : List Int} {s : Nat} {x : Int} (h : s < l.length) : (l.set s x).map (Value.int k) = (l.map (.int k)).take s ++ [.int k x] ++ (l.map (.int k)).drop (s + 1) := by
  rw [List.set_eq_take_append_cons_drop, if_pos h]
  simp [List.map_take, List.map_drop]
theorem put1_rel {M : List Place} : ∀ {cs : List AV} {vs : List Value} {s : Nat} {y : AV} {a : List Value} {r : List AV}, RelC M cs vs → RelX M y a → put1 cs s y = some r →
    s + a.length ≤ vs.length ∧ RelC M r (vs.take s ++ a ++ vs.drop (s + a.length))
  | [], _, _, _, _, _, _, _, h => by simp [put1] at h
  | c :: cs, vs, s, y, a, r, hc, hy, h => by
    obtain ⟨b, t, rfl, hx, hr⟩ := RelC_cons.1 hc
    have hl := RelX_length hx
    have hya := RelX_length hy
    by_cases his : ∃ k n l, c = .is k n l
    · obtain ⟨k, n, l, rfl⟩ := his
      obtain ⟨h1, h2, h3⟩ := RelX_is.1 hx
      simp only [width] at hl
      simp only [put1] at h
      split at h
      · rename_i hs
        simp only [Option.map_eq_some_iff] at h
        obtain ⟨r', hq, rfl⟩ := h
        obtain ⟨g1, g2⟩ := put1_rel hr hy hq
        refine ⟨by simp; omega, RelC_cons.2 ⟨b, _, ?_, hx, g2⟩⟩
        rw [List.take_append, List.take_of_length_le (show b.length ≤ s by omega), List.drop_append, List.drop_of_length_le (show b.length ≤ s + a.length by omega), List.nil_append, hl,
          show s + a.length - n = s - n + a.length by omega]
        simp
      · rename_i hs
        cases y <;> simp only [reduceCtorEq] at h
        case int k' lit x =>
          obtain ⟨e1, e2, _⟩ := RelX_int.1 hy
          subst e1
          split at h
          · rename_i hk
            subst hk
            cases h
            refine ⟨by simp; omega, RelC_cons.2 ⟨(l.set s x).map (.int k'), t, ?_, ?_, hr⟩⟩
            · rw [set_map (by omega), ← h2, List.take_append_of_le_length (by omega), List.drop_append_of_le_length (by simp; omega)]
              simp
            · refine RelX_is.2 ⟨by simp [h1], rfl, fun z hz => ?_⟩
              rcases List.mem_or_eq_of_mem_set hz with hz | rfl
              · exact h3 z hz
              · exact e2
          · cases h
        case is k' m l' =>
          obtain ⟨f1, f2, f3⟩ := RelX_is.1 hy
          simp only [width] at hya
          split at h
          · rename_i hk
            obtain ⟨rfl, hm⟩ := hk
            cases h
            refine ⟨by simp; omega, RelC_cons.2 ⟨b.take s ++ a ++ b.drop (s + a.length), t, ?_, ?_, hr⟩⟩
            · rw [List.take_append_of_le_length (by omega), List.drop_append_of_le_length (by omega)]
              simp
            · split
              · rename_i hz
                obtain ⟨rfl, rfl⟩ := hz
                rw [List.take_zero, List.drop_of_length_le (by omega)]
                simpa using hy
              · refine RelX_is.2 ⟨by simp; omega, ?_, fun z hz => ?_⟩
                · rw [h2, f2]
                  simp [List.map_take, List.map_drop, f1]
                · simp only [List.mem_append] at hz
                  rcases hz with (hz | hz) | hz
                  · exact h3 z (List.mem_of_mem_take hz)
                  · exact f3 z hz
                  · exact h3 z (List.mem_of_mem_drop hz)
          · cases h
    · have hw : width c = 1 := by
        cases c <;> first | rfl | (exfalso; exact his ⟨_, _, _, rfl⟩)
      rw [hw] at hl
      obtain ⟨v, rfl⟩ := List.length_eq_one_iff.1 hl
      cases s with
      | zero =>
        have : put1 (c :: cs) 0 y = if scal y then some (y :: cs) else none := by
          cases c <;> first | rfl | (exfalso; exact his ⟨_, _, _, rfl⟩)
        rw [this] at h
        split at h
        · rename_i hs
          cases h
          obtain ⟨u, rfl, _⟩ := scal_one hs hy
          exact ⟨by simp, RelC_cons.2 ⟨[u], t, by simp, hy, hr⟩⟩
        · cases h
      | succ s =>
        have : put1 (c :: cs) (s + 1) y = (put1 cs s y).map (c :: ·) := by
          cases c <;> first | rfl | (exfalso; exact his ⟨_, _, _, rfl⟩)
        rw [this] at h
        simp only [Option.map_eq_some_iff] at h
        obtain ⟨r', hq, rfl⟩ := h
        obtain ⟨g1, g2⟩ := put1_rel hr hy hq
        refine ⟨by simp; omega, RelC_cons.2 ⟨[v], _, ?_, hx, g2⟩⟩
        rw [show s + 1 + a.length = s + a.length + 1 by omega]
        simp
def putL : List AV → Nat → List AV → Option (List AV)
  | cs, _, [] => some cs
  | cs, s, y :: ys => match put1 cs s y with
    | some cs' => putL cs' (s + width y) ys
    | none => none
theorem putL_rel {M : List Place} : ∀ {ys cs : List AV} {vs : List Value} {s : Nat} {a : List Value} {r : List AV}, RelC M cs vs → RelC M ys a → putL cs s ys = some r →
    (s + a.length ≤ vs.length ∨ ys = []) ∧ RelC M r (vs.take s ++ a ++ vs.drop (s + a.length))
  | [], cs, vs, s, a, r, hc, hy, h => by
    simp [putL] at h
    subst h
    rw [RelC_nil] at hy
    subst hy
    simpa using hc
  | y :: ys, cs, vs, s, a, r, hc, hy, h => by
    obtain ⟨b, t, rfl, hx, hr⟩ := RelC_cons.1 hy
    simp only [putL] at h
    split at h
    · rename_i cs' hp
      obtain ⟨g1, g2⟩ := put1_rel hc hx hp
      obtain ⟨f1, f2⟩ := putL_rel g2 hr h
      have hb := RelX_length hx
      rw [← hb] at f1 f2
      have e1 : (List.take s vs ++ b ++ List.drop (s + b.length) vs).length = vs.length := by simp; omega
      rw [e1] at f1
      refine ⟨.inl ?_, ?_⟩
      · rcases f1 with f1 | f1
        · simp; omega
        · subst f1; rw [RelC_nil] at hr; subst hr; simpa using g1
      · have ht : s + b.length + t.length ≤ vs.length := by
          rcases f1 with f1 | f1
          · omega
          · subst f1; rw [RelC_nil] at hr; subst hr; simpa using g1
        have e2 : (List.take s vs ++ b ++ List.drop (s + b.length) vs).take (s + b.length) = List.take s vs ++ b := by
          rw [List.take_append_of_le_length (by simp; omega)]
          exact List.take_of_length_le (by simp; omega)
        have e3 : (List.take s vs ++ b ++ List.drop (s + b.length) vs).drop (s + b.length + t.length) = vs.drop (s + b.length + t.length) := by
          rw [List.drop_append, List.drop_of_length_le (by simp; omega), List.nil_append, List.drop_drop]
          congr 1
          simp
          omega
        rw [e2, e3] at f2
        rw [List.length_append, show s + (b.length + t.length) = s + b.length + t.length by omega]
        simpa using f2
    · cases h
def expandI (k : IntKind) (m : Nat) (l : List Int) : List AV := (List.range m).map fun i => .int k none (l.getD i 0)
theorem relC_ints {M : List Place} {k : IntKind} : ∀ {l : List Int}, (∀ x ∈ l, k.has x) → RelC M (l.map fun x => .int k none x) (l.map (.int k))
  | [], _ => RelC_nil.2 rfl
  | x :: l, h => RelC_cons.2 ⟨[.int k x], l.map (.int k), by simp, RelX_int.2 ⟨rfl, h x (by simp), fun m hm => (by cases hm)⟩, relC_ints fun z hz => h z (by simp [hz])⟩
theorem relC_expandI {M : List Place} {k : IntKind} {m : Nat} {l : List Int} {a : List Value} (h : RelX M (.is k m l) a) : RelC M (expandI k m l) a := by
  obtain ⟨h1, h2, h3⟩ := RelX_is.1 h
  have : expandI k m l = l.map fun x => .int k none x := by
    unfold expandI
    apply List.ext_getElem
    · simp [h1]
    · intro i g1 g2
      simp at g2
      simp [g2]
  rw [this, h2]
  exact relC_ints h3
def putX (cs : List AV) (s : Nat) (y : AV) : Option (List AV) :=
  match put1 cs s y with
  | some cs' => some cs'
  | none => match y with
    | .is k m l => putL cs s (expandI k m l)
    | _ => none
def putC : List AV → Nat → List AV → Option (List AV)
  | cs, _, [] => some cs
  | cs, s, y :: ys => match putX cs s y with
    | some cs' => putC cs' (s + width y) ys
    | none => none
theorem putC1 {M : List Place} {y : AV} {cs : List AV} {vs : List Value} {s : Nat} {b : List Value} {cs' : List AV} (hc : RelC M cs vs) (hx : RelX M y b) (h : putX cs s y = some cs') : (s + b.length ≤ vs.length ∨ b = []) ∧ RelC M cs' (vs.take s ++ b ++ vs.drop (s + b.length)) := by
  unfold putX at h
  split at h
  · rename_i c2 hp
    cases h
    obtain ⟨g1, g2⟩ := put1_rel hc hx hp
    exact ⟨.inl g1, g2⟩
  · split at h
    · rename_i k m l
      obtain ⟨g1, g2⟩ := putL_rel hc (relC_expandI hx) h
      refine ⟨?_, g2⟩
      rcases g1 with g1 | g1
      · exact .inl g1
      · right
        have h1 := relC_expandI hx
        rw [g1, RelC_nil] at h1
        exact h1
    · cases h
theorem putC_rel {M : List Place} : ∀ {ys cs : List AV} {vs : List Value} {s : Nat} {a : List Value} {r : List AV}, RelC M cs vs → RelC M ys a → putC cs s ys = some r →
    (s + a.length ≤ vs.length ∨ a = []) ∧ RelC M r (vs.take s ++ a ++ vs.drop (s + a.length))
  | [], cs, vs, s, a, r, hc, hy, h => by
    simp [putC] at h
    subst h
    rw [RelC_nil] at hy
    subst hy
    simpa using hc
  | y :: ys, cs, vs, s, a, r, hc, hy, h => by
    obtain ⟨b, t, rfl, hx, hr⟩ := RelC_cons.1 hy
    unfold putC at h
    split at h
    · rename_i cs' hp
      obtain ⟨g1, g2⟩ := putC1 hc hx hp
      obtain ⟨f1, f2⟩ := putC_rel g2 hr h
      have hb := RelX_length hx
      rw [← hb] at f1 f2
      by_cases hb0 : b = []
      · subst hb0
        simp only [List.length_nil, Nat.add_zero, List.append_nil, List.take_append_drop, List.nil_append] at f1 f2 ⊢
        exact ⟨f1, f2⟩
      · have g1 : s + b.length ≤ vs.length := by
          rcases g1 with g1 | g1
          · exact g1
          · exact absurd g1 hb0
        have e1 : (List.take s vs ++ b ++ List.drop (s + b.length) vs).length = vs.length := by simp; omega
        rw [e1] at f1
        have ht : s + b.length + t.length ≤ vs.length := by
          rcases f1 with f1 | f1
          · omega
          · subst f1; simpa using g1
        refine ⟨.inl (by simp; omega), ?_⟩
        have e2 : (List.take s vs ++ b ++ List.drop (s + b.length) vs).take (s + b.length) = List.take s vs ++ b := by
          rw [List.take_append_of_le_length (by simp; omega)]
          exact List.take_of_length_le (by simp; omega)
        have e3 : (List.take s vs ++ b ++ List.drop (s + b.length) vs).drop (s + b.length + t.length) = vs.drop (s + b.length + t.length) := by
          rw [List.drop_append, List.drop_of_length_le (by simp; omega), List.nil_append, List.drop_drop]
          congr 1
          simp
          omega
        rw [e2, e3] at f2
        rw [List.length_append, show s + (b.length + t.length) = s + b.length + t.length by omega]
        simpa using f2
    · cases h
def toInts (k : IntKind) : List AV → Option (List Int)
  | [] => some []
  | [.is k' _ l] => if k' = k then some l else none
  | .is k' _ l :: r => if k' = k then (toInts k r).map (l ++ ·) else none
  | .int k' _ x :: r => if k' = k then (toInts k r).map (x :: ·) else none
  | _ => none
theorem toInts_rel {M : List Place} {k : IntKind} : ∀ {cs : List AV} {vs : List Value} {l : List Int}, RelC M cs vs → toInts k cs = some l → vs = l.map (.int k) ∧ ∀ x ∈ l, k.has x
  | [], vs, l, h, e => by
    simp [toInts] at e
    subst e
    rw [RelC_nil] at h
    subst h
    simp
  | c :: cs, vs, l, h, e => by
    obtain ⟨b, t, rfl, hx, hr⟩ := RelC_cons.1 h
    unfold toInts at e
    split at e
    · rename_i heq; cases heq
    · rename_i k' n l' heq
      injection heq with e1 e2
      subst e1; subst e2
      split at e
      · rename_i hk
        subst hk
        cases e
        obtain ⟨f1, f2, f3⟩ := RelX_is.1 hx
        rw [RelC_nil] at hr
        subst hr
        simpa using ⟨f2, f3⟩
      · cases e
    · rename_i k' n l' r' _ heq
      injection heq with e1 e2
      subst e1; subst e2
      split at e
      · rename_i hk
        subst hk
        simp only [Option.map_eq_some_iff] at e
        obtain ⟨l2, hl2, rfl⟩ := e
        obtain ⟨f1, f2, f3⟩ := RelX_is.1 hx
        obtain ⟨g1, g2⟩ := toInts_rel hr hl2
        refine ⟨by rw [f2, g1]; simp, fun z hz => ?_⟩
        rcases List.mem_append.1 hz with hz | hz
        · exact f3 z hz
        · exact g2 z hz
      · cases e
    · rename_i k' lit x r' heq
      injection heq with e1 e2
      subst e1; subst e2
      split at e
      · rename_i hk
        subst hk
        simp only [Option.map_eq_some_iff] at e
        obtain ⟨l2, hl2, rfl⟩ := e
        obtain ⟨f1, f2, f3⟩ := RelX_int.1 hx
        obtain ⟨g1, g2⟩ := toInts_rel hr hl2
        refine ⟨by rw [f1, g1]; simp, fun z hz => ?_⟩
        rcases List.mem_cons.1 hz with rfl | hz
        · exact f2
        · exact g2 z hz
      · cases e
    · cases e
def cellsA : AV → Option (List AV)
  | .agg cs => some cs
  | .undef | .tup _ | .is _ _ _ => none
  | x => some [x]
theorem cellsA_rel {M : List Place} {x : AV} {v : Value} (h : RelV M x v) {cs : List AV} (hc : cellsA x = some cs) : RelC M cs v.cells.toList := by
  cases x <;> simp only [cellsA, Option.some.injEq, reduceCtorEq] at hc <;> subst hc
  case agg cs =>
    obtain ⟨vs, hv, hr⟩ := RelX_agg.1 h
    have hv : v = .agg vs := by simpa using hv
    subst hv
    exact hr
  all_goals
    have hv : v.cells = #[v] := by
      cases v <;> first | rfl | (exfalso; simp [RelV, RelX, RowFz, SlFz] at h)
    rw [hv]
    exact RelC_single.2 h
def wid (cs : List AV) : Nat := match cs with
  | [] => 0
  | [x] => width x
  | x :: r => width x + wid r
theorem wid_eq : ∀ (cs : List AV), wid cs = (cs.map width).sum
  | [] => rfl
  | [x] => by simp [wid]
  | x :: y :: r => by rw [wid]; simp [wid_eq (y :: r)]; intro h; cases h
theorem RelC_length {M : List Place} : ∀ {cs : List AV} {vs : List Value}, RelC M cs vs → vs.length = wid cs
  | [], vs, h => by rw [RelC_nil] at h; subst h; rfl
  | c :: cs, vs, h => by
    obtain ⟨b, t, rfl, hx, hr⟩ := RelC_cons.1 h
    rw [wid_eq]
    have := RelC_length hr
    rw [wid_eq] at this
    simp [RelX_length hx, this]
def zchk : List AV → List Value → Bool
  | [], vs => vs.isEmpty
  | .is k n l :: r, vs => decide (l.length = n) && decide (n ≤ vs.length) && (intsOf k (vs.take n) == some l) && zchk r (vs.drop n)
  | .int k (some m) x :: r, .int k' n :: vs => decide (k = k') && (m == n) && (x == n) && inB k n && zchk r vs
  | .bool (some m) x :: r, .bool n :: vs => (m == n) && (x == n) && zchk r vs
  | .str [] :: r, .string s' :: vs => decide (s'.size = 0) && zchk r vs
  | .nilp :: r, .pointer none :: vs => zchk r vs
  | .nils :: r, .slice none 0 0 :: vs => zchk r vs
  | .nilf :: r, .nilFunc :: vs => zchk r vs
  | .niface :: r, .nilIface :: vs => zchk r vs
  | .undef :: r, _ :: vs => zchk r vs
  | _, _ => false
theorem zchk_rel (M : List Place) : ∀ {cs : List AV} {vs : List Value}, zchk cs vs = true → RelC M cs vs
  | [], vs, h => by simp [zchk] at h; subst h; exact RelC_nil.2 rfl
  | c :: r, vs, h => by
    unfold zchk at h
    split at h
    · rename_i heq; cases heq
    · rename_i k n l r' heq
      injection heq with e1 e2
      subst e1; subst e2
      simp only [Bool.and_eq_true, decide_eq_true_eq, beq_iff_eq] at h
      obtain ⟨⟨⟨h1, h2⟩, h3⟩, h4⟩ := h
      obtain ⟨g1, g2⟩ := intsOf_spec h3
      exact RelC_cons.2 ⟨_, _, (List.take_append_drop n _).symm, RelX_is.2 ⟨h1, g1, g2⟩, zchk_rel M h4⟩
    · rename_i k m x r' k' n vs' heq
      injection heq with e1 e2
      subst e1; subst e2
      simp only [Bool.and_eq_true, decide_eq_true_eq, beq_iff_eq] at h
      obtain ⟨⟨⟨⟨rfl, rfl⟩, rfl⟩, h3⟩, h4⟩ := h
      exact RelC_cons.2 ⟨[_], vs', rfl, RelX_int.2 ⟨rfl, has_of_inB h3, fun m hm => by cases hm; rfl⟩, zchk_rel M h4⟩
    · rename_i m x r' n vs' heq
      injection heq with e1 e2
      subst e1; subst e2
      simp only [Bool.and_eq_true, beq_iff_eq] at h
      obtain ⟨⟨rfl, rfl⟩, h4⟩ := h
      exact RelC_cons.2 ⟨[_], vs', rfl, by simp [RelX], zchk_rel M h4⟩
    · rename_i r' s' vs' heq
      injection heq with e1 e2
      subst e1; subst e2
      simp only [Bool.and_eq_true, decide_eq_true_eq] at h
      obtain ⟨h1, h4⟩ := h
      have hs : s' = mkS [] := by
        cases s' with
        | mk d => simp [ByteArray.size] at h1; subst h1; rfl
      subst hs
      exact RelC_cons.2 ⟨[_], vs', rfl, by simp [RelX, has_iff, loB, hiB], zchk_rel M h4⟩
    · rename_i r' vs' heq
      injection heq with e1 e2
      subst e1; subst e2
      exact RelC_cons.2 ⟨[_], vs', rfl, by simp [RelX], zchk_rel M h⟩
    · rename_i r' vs' heq
      injection heq with e1 e2
      subst e1; subst e2
      exact RelC_cons.2 ⟨[_], vs', rfl, by simp [RelX], zchk_rel M h⟩
    · rename_i r' vs' heq
      injection heq with e1 e2
      subst e1; subst e2
      exact RelC_cons.2 ⟨[_], vs', rfl, by simp [RelX], zchk_rel M h⟩
    · rename_i r' vs' heq
      injection heq with e1 e2
      subst e1; subst e2
      exact RelC_cons.2 ⟨[_], vs', rfl, by simp [RelX], zchk_rel M h⟩
    · rename_i r' v vs' heq
      injection heq with e1 e2
      subst e1; subst e2
      exact RelC_cons.2 ⟨[v], vs', rfl, by simp [RelX], zchk_rel M h⟩
    · cases h
def oneKind : List AV → Option (IntKind × Nat)
  | [] => none
  | [.is k n _] => some (k, n)
  | [.int k _ _] => some (k, 1)
  | .int k _ _ :: r => match oneKind r with
    | some (k', n) => if k = k' then some (k, n + 1) else none
    | none => none
  | .is k m _ :: r => match oneKind r with
    | some (k', n) => if k = k' then some (k, n + m) else none
    | none => none
  | _ => none
def zguess (P : Program) : Nat → TypeId → List AV
  | 0, _ => []
  | d + 1, t => match P.underlying t with
    | some .bool => [.bool (some false) false]
    | some (.int k) => [.int k (some 0) 0]
    | some .string => [.str []]
    | some (.pointer _) => [.nilp]
    | some (.slice _) => [.nils]
    | some (.func _ _ _) => [.nilf]
    | some (.interface _) => [.niface]
    | some (.struct fs) => fs.toList.flatMap fun f => zguess P d f.type
    | some (.array n e) => match oneKind (zguess P d e) with
      | some (k, m) => [.is k (n * m) (List.replicate (n * m) 0)]
      | none => (List.replicate n (zguess P d e)).flatten
    | _ => [.undef]
def zeroC (P : Program) (t : TypeId) : Option (List AV) :=
  match P.info? t with
  | some i => match i.zero with
    | some z => if zchk (zguess P 20 t) z.cells.toList then some (zguess P 20 t) else none
    | none => none
  | none => none
theorem zeroC_rel {P : Program} {t : TypeId} {cs : List AV} (h : zeroC P t = some cs) : ∃ i z, P.info? t = some i ∧ i.zero = some z ∧ (∀ w, (zeroValue t).run P w = .ok z w) ∧ ∀ M, RelC M cs z.cells.toList := by
  unfold zeroC at h
  split at h
  · rename_i i hi
    split at h
    · rename_i z hz
      split at h
      · rename_i hc
        cases h
        exact ⟨i, z, hi, hz, fun w => by simp [zeroValue, typeInfo, hi, hz], fun M => zchk_rel M hc⟩
      · cases h
    · cases h
  · cases h
end Go.AE
set_option linter.unusedVariables false
set_option linter.unusedSimpArgs false
namespace Go.AE
open Go Go.RowKit
def newPlace (w : World) (n size : Nat) : Place := ⟨false, w.heap.size, 0, n, size, noFz⟩
theorem below_alloc (w : World) (o : Obj) : Below w.heap.size w (w.alloc o) := (Below.refl _ _).alloc (Nat.le_refl _) o
theorem snoc_cases {M : List Place} {H : Heap} (hl : H.length = M.length) {x : Option AObj} {p : Place} {i : Nat} {o : AObj} {pl : Place} (h : (H ++ [x])[i]? = some (some o)) (hp : (M ++ [p])[i]? = some pl) :
    (H[i]? = some (some o) ∧ M[i]? = some pl) ∨ (x = some o ∧ p = pl) := by
  by_cases hi : i < M.length
  · rw [List.getElem?_append_left (by omega)] at h
    rw [List.getElem?_append_left hi] at hp
    exact .inl ⟨h, hp⟩
  · rw [List.getElem?_append_right (by omega)] at h
    rw [List.getElem?_append_right (by omega)] at hp
    cases hq : i - M.length with
    | zero =>
      rw [hq] at hp
      rw [hl, hq] at h
      simp at h hp
      exact .inr ⟨h, hp⟩
    | succ k => rw [hq] at hp; simp at hp
theorem RelH.allocF {M : List Place} {H : Heap} {B : Base} {w : World} (r : RelH M H B w) {c : Cont} {cs : Array Value} {el : TypeId} {n : Nat} (hn : n ≤ cs.size) (hc : RelO M c (cs.toList.take n)) (own : Bool) {fz : Nat × Nat} (hfz : FzOk fz cs.size) :
    RelH (M ++ [newPlace w n cs.size]) (H ++ [some ⟨c, own, none⟩]) B (w.alloc (.cells cs el fz)) ∧ Ext M (M ++ [newPlace w n cs.size]) ∧ Beneath B w (w.alloc (.cells cs el fz)) := by
  have hE : Ext M (M ++ [newPlace w n cs.size]) := Ext.snoc M _
  have hb := below_alloc w (.cells cs el fz)
  have hr := r.below hb
  refine ⟨⟨by simp [r.len], hr.base, fun i o ho => ?_, fun i j oi oj pi pj hi hj hpi hpj hne how hni hnj => ?_, fun i o pl k ho hp hk => ?_, fun i o pl ho hp hn => ?_, fun k ob hk => hr.fz k ob (FzAt.snoc rfl hk), fun i o pl ho hp how hn => ?_, hr.bf⟩, hE, .of hb⟩
  · rw [List.getElem?_append] at ho
    split at ho
    · rename_i hlt
      obtain ⟨pl, hp, hok⟩ := hr.obj i o ho
      refine ⟨pl, hE _ _ hp, ?_⟩
      rcases hok with ⟨a1, a2, a3⟩ | ⟨a1, cs', el', fz, a2, a3, a4, a5, a6⟩
      · exact .inl ⟨a1, a2, a3.mono hE⟩
      · exact .inr ⟨a1, cs', el', fz, a2, a3, a4, a5.mono hE, a6⟩
    · rename_i hge
      have hi : i - H.length = 0 := by
        rcases Nat.eq_zero_or_pos (i - H.length) with h | h
        · exact h
        · rw [List.getElem?_eq_none (by simp; omega)] at ho; cases ho
      rw [hi] at ho
      simp at ho
      subst ho
      have hi' : i = M.length := by have := r.len; omega
      subst hi'
      refine ⟨newPlace w n cs.size, by simp, .inr ⟨rfl, cs, el, fz, ?_, rfl, by simpa [newPlace] using hn, ?_, fun _ => ⟨hfz, rfl, (r.base _ (Nat.le_refl _)).1⟩⟩⟩
      · exact heap_alloc_new w _
      · simpa [newPlace] using hc.mono hE
  · 
    have old : ∀ (i : Nat) (oi : AObj) (pi : Place), (H ++ [some ⟨c, own, none⟩])[i]? = some (some oi) → (M ++ [newPlace w n cs.size])[i]? = some pi → pi.nil = false → i ≠ M.length →
        H[i]? = some (some oi) ∧ M[i]? = some pi ∧ pi.blk < w.heap.size := by
      intro i oi pi hi hpi hni hne
      have hlen := r.len
      have hlt : i < M.length := by
        have := (List.getElem?_eq_some_iff.1 hpi).1
        simp at this
        omega
      rw [List.getElem?_append_left (by omega)] at hi hpi
      refine ⟨hi, hpi, ?_⟩
      obtain ⟨pl, hp, hok⟩ := r.obj i oi hi
      rw [hpi] at hp
      cases hp
      rcases hok with ⟨a1, _⟩ | ⟨_, cs', el', fz, a2, _⟩
      · rw [hni] at a1; cases a1
      · exact (Array.getElem?_eq_some_iff.1 a2).1
    have new : ∀ (i : Nat) (pi : Place), (M ++ [newPlace w n cs.size])[i]? = some pi → i = M.length → pi.blk = w.heap.size := by
      intro i pi hpi hi
      subst hi
      simp at hpi
      subst hpi
      rfl
    by_cases h1 : i = M.length <;> by_cases h2 : j = M.length
    · omega
    · have := new i pi hpi h1
      have := (old j oj pj hj hpj hnj h2).2.2
      omega
    · have := new j pj hpj h2
      have := (old i oi pi hi hpi hni h1).2.2
      omega
    · obtain ⟨b1, b2, _⟩ := old i oi pi hi hpi hni h1
      obtain ⟨c1, c2, _⟩ := old j oj pj hj hpj hnj h2
      exact r.sep i j oi oj pi pj b1 c1 b2 c2 hne how hni hnj
  · rcases snoc_cases r.len ho hp with ⟨h1, h2⟩ | ⟨h, rfl⟩
    · exact r.pin i o pl k h1 h2 hk
    · cases h; cases hk
  · rcases snoc_cases r.len ho hp with ⟨h1, h2⟩ | ⟨_, rfl⟩
    · exact r.vis i o pl h1 h2 hn
    · exact (r.base _ (Nat.le_refl _)).2
  · rcases snoc_cases r.len ho hp with ⟨h1, h2⟩ | ⟨_, rfl⟩
    · exact ⟨(r.fo i o pl h1 h2 how hn).1, fun ob h => (r.fo i o pl h1 h2 how hn).2 ob (FzAt.snoc rfl h)⟩
    · exact ⟨r.bf _ (Nat.le_refl _), fun ob h => absurd (r.fz_lt (FzAt.snoc rfl h)) (Nat.lt_irrefl _)⟩
theorem RelH.alloc {M : List Place} {H : Heap} {B : Base} {w : World} (r : RelH M H B w) {c : Cont} {cs : Array Value} {el : TypeId} {n : Nat} (hn : n ≤ cs.size) (hc : RelO M c (cs.toList.take n)) (own : Bool) :
    RelH (M ++ [newPlace w n cs.size]) (H ++ [some ⟨c, own, none⟩]) B (w.alloc (.cells cs el)) ∧ Ext M (M ++ [newPlace w n cs.size]) ∧ Beneath B w (w.alloc (.cells cs el)) :=
  r.allocF hn hc own (.inl rfl)
theorem set_back {H : Heap} {b : Nat} {o : AObj} (ho : H[b]? = some (some o)) {c : Cont} {i : Nat} {oi : AObj} (hi : (H.set b (some { o with c := c }))[i]? = some (some oi)) : ∃ oi', H[i]? = some (some oi') ∧ oi'.own = oi.own ∧ oi'.pin = oi.pin := by
  rw [List.getElem?_set] at hi
  split at hi
  · rename_i hbi
    subst hbi
    split at hi
    · cases hi; exact ⟨o, ho, rfl, rfl⟩
    · cases hi
  · exact ⟨oi, hi, rfl, rfl⟩
theorem run_storeCells_fz (P : Program) (g o : Nat) (t : TypeId) (fz : Nat × Nat) : ∀ (vs : List Value) (i : Nat) (cur : Array Value) (w : World), w.heap[g]? = some (.cells cur t fz) → FzOk fz cur.size → o + i + vs.length ≤ cur.size → (∀ v ∈ vs, v.oneCell' = true) →
    (storeCells ⟨g, o, none⟩ vs i).run P w = .ok () (w.setRow g (cur.toList.take (o + i) ++ vs ++ cur.toList.drop (o + i + vs.length)).toArray)
  | [], i, cur, w, hg, _, _, _ => by
    simp only [storeCells, List.append_nil, List.length_nil, Nat.add_zero, List.take_append_drop, Array.toArray_toList]
    rw [setRow_self w g cur t fz hg]
    rfl
  | v :: rest, i, cur, w, hg, hfz, hl, h1 => by
    have hi : o + i < cur.size := by simp at hl; omega
    have hadd : (⟨g, o, none⟩ : Addr).add i = ⟨g, o + i, none⟩ := by unfold Addr.add; split <;> simp_all
    have hcell : w.cell? ⟨g, o + i, none⟩ = some cur[o + i] := by simp [World.cell?, hg, hi]
    have hfro : w.frozen? ⟨g, o + i, none⟩ = false := by
      obtain ⟨lo, hi'⟩ := fz
      simp only [FzOk] at hfz
      simp only [World.frozen?, hg, Bool.and_eq_false_iff, decide_eq_false_iff_not]
      rcases hfz with hfz | hfz
      · right
        cases hfz
        omega
      · left
        omega
    have hst : (store ((⟨g, o, none⟩ : Addr).add i) v).run P w = .ok () (w.setRow g (cur.setIfInBounds (o + i) v)) := by
      rw [hadd, run_store P w _ v _ (h1 v (by simp)), hcell]
      simp [hfro, setCell_eq_setRow w g (o + i) cur t fz v hg]
    have ih := run_storeCells_fz P g o t fz rest (i + 1) (cur.setIfInBounds (o + i) v) (w.setRow g (cur.setIfInBounds (o + i) v)) (setRow_heap w g cur _ t _ hg) (by simpa using hfz) (by simp at hl ⊢; omega) (fun x hx => h1 x (by simp [hx]))
    simp only [storeCells, Sem.run_bind, hst, Result.andThen_ok, ih, setRow_setRow]
    congr 3
    have e := list_seg_step cur.toList (o + i) v rest (by simp at hl ⊢; omega)
    simpa [Array.toList_setIfInBounds, Nat.add_assoc] using e
theorem RelH.write {M : List Place} {H : Heap} {B : Base} {w : World} (r : RelH M H B w) {b : Nat} {o : AObj} {pl : Place} (ho : H[b]? = some (some o)) (how : o.own = true) (hpl : M[b]? = some pl) (hnil : pl.nil = false)
    {cs : Array Value} {el : TypeId} {fz : Nat × Nat} (hg : w.heap[pl.blk]? = some (.cells cs el fz)) {us : Array Value} (hsz : us.size = cs.size) {c : Cont} (hc : RelO M c ((us.toList.drop pl.off).take pl.n)) :
    RelH M (H.set b (some { o with c := c })) B (w.setRow pl.blk us) ∧ Beneath B w (w.setRow pl.blk us) := by
  obtain ⟨pl', hpl', hok⟩ := r.obj b o ho
  rw [hpl] at hpl'
  cases hpl'
  rcases hok with ⟨a1, _⟩ | ⟨_, cs', el', fz', hg', hs1, hs2, hro, hown⟩
  · rw [hnil] at a1; cases a1
  rw [hg] at hg'
  cases hg'
  obtain ⟨hfz, hoff, hB⟩ := hown how
  have hset : ∀ k, k ≠ pl.blk → (w.setRow pl.blk us).heap[k]? = w.heap[k]? := fun k hk => setRow_other w pl.blk k us (fun h => hk h)
  have hself := setRow_heap w pl.blk cs us el fz hg
  refine ⟨⟨by simp [r.len], by simpa using r.base, fun i oi hi => ?_, fun i j oi oj pi pj hi hj hpi hpj hne how' hni hnj => ?_, fun i oi pi k hi hpi hk => ?_, fun i oi pi hi hpi hn => ?_,
    fun k ob hk => ⟨(hset k (fun e => (r.fo b o pl ho hpl how hnil).2 ob (e ▸ hk))).trans (r.fz k ob hk).1, (r.fz k ob hk).2⟩, fun i oi pi hi hpi how' hn => ?_, by simpa using r.bf⟩, ⟨rfl, rfl, rfl, by simp, fun k _ hw => hset k (fun e => hw (e ▸ hB))⟩⟩
  · rw [List.getElem?_set] at hi
    split at hi
    · rename_i hbi
      subst hbi
      split at hi
      · cases hi
        exact ⟨pl, hpl, .inr ⟨hnil, us, el, fz, hself, by rw [hsz, hs1], hs2, hc, fun _ => ⟨by rw [hsz]; exact hfz, hoff, hB⟩⟩⟩
      · cases hi
    · rename_i hbi
      obtain ⟨pi, hpi, hoki⟩ := r.obj i oi hi
      refine ⟨pi, hpi, ?_⟩
      rcases hoki with hoki | ⟨n1, cs1, el1, fz1, g1, rest⟩
      · exact .inl hoki
      · refine .inr ⟨n1, cs1, el1, fz1, ?_, rest⟩
        rw [hset]
        · exact g1
        · exact fun h => r.sep b i o oi pl pi ho hi hpl hpi hbi how hnil n1 h.symm
  · obtain ⟨oi', hi', e1, _⟩ := set_back ho hi
    obtain ⟨oj', hj', e2, _⟩ := set_back ho hj
    exact r.sep i j oi' oj' pi pj hi' hj' hpi hpj hne (by rw [e1]; exact how') hni hnj
  · obtain ⟨oi', hi', _, e2⟩ := set_back ho hi
    exact r.pin i oi' pi k hi' hpi (by rw [e2]; exact hk)
  · obtain ⟨oi', hi', _, e2⟩ := set_back ho hi
    exact r.vis i oi' pi hi' hpi hn
  · obtain ⟨oi', hi', e1, _⟩ := set_back ho hi
    exact r.fo i oi' pi hi' hpi (by rw [e1]; exact how') hn
theorem RelH.mark {M : List Place} {H : Heap} {B : Base} {w w' : World} (r : RelH M H B w) {b : Nat} {o : AObj} {pl : Place} (ho : H[b]? = some (some o)) (how : o.own = true) (hpl : M[b]? = some pl) (hnil : pl.nil = false)
    {cs : Array Value} {el : TypeId} {fz fz2 : Nat × Nat} (hg : w.heap[pl.blk]? = some (.cells cs el fz)) (hfz2 : FzOk fz2 cs.size) (hself : w'.heap[pl.blk]? = some (.cells cs el fz2)) (hset : ∀ k, k ≠ pl.blk → w'.heap[k]? = w.heap[k]?) (hsize : w'.heap.size = w.heap.size)
    (hos : w'.os = w.os) (htp : w'.tape = w.tape) (hout : w'.output = w.output) :
    RelH M H B w' ∧ Beneath B w w' := by
  obtain ⟨pl', hpl', hok⟩ := r.obj b o ho
  rw [hpl] at hpl'
  cases hpl'
  rcases hok with ⟨a1, _⟩ | ⟨_, cs', el', fz', hg', hs1, hs2, hro, hown⟩
  · rw [hnil] at a1; cases a1
  rw [hg] at hg'
  cases hg'
  obtain ⟨hfz, hoff, hB⟩ := hown how
  refine ⟨⟨r.len, by rw [hsize]; exact r.base, fun i oi hi => ?_, r.sep, r.pin, r.vis,
    fun k ob hk => ⟨(hset k (fun e => (r.fo b o pl ho hpl how hnil).2 ob (e ▸ hk))).trans (r.fz k ob hk).1, (r.fz k ob hk).2⟩, r.fo, by rw [hsize]; exact r.bf⟩, ⟨hos, htp, hout, by rw [hsize]; exact Nat.le_refl _, fun k _ hw => hset k (fun e => hw (e ▸ hB))⟩⟩
  by_cases hbi : b = i
  · subst hbi
    rw [ho] at hi
    cases hi
    exact ⟨pl, hpl, .inr ⟨hnil, cs, el, fz2, hself, hs1, hs2, hro, fun _ => ⟨hfz2, hoff, hB⟩⟩⟩
  · obtain ⟨pi, hpi, hoki⟩ := r.obj i oi hi
    refine ⟨pi, hpi, ?_⟩
    rcases hoki with hoki | ⟨n1, cs1, el1, fz1, g1, rest⟩
    · exact .inl hoki
    · refine .inr ⟨n1, cs1, el1, fz1, ?_, rest⟩
      rw [hset]
      · exact g1
      · exact fun h => r.sep b i o oi pl pi ho hi hpl hpi hbi how hnil n1 h.symm
theorem RelH.kill {M : List Place} {H : Heap} {B : Base} {w : World} (r : RelH M H B w) (b : Nat) : RelH M (H.set b none) B w := by
  have back : ∀ (i : Nat) (oi : AObj), (H.set b none)[i]? = some (some oi) → H[i]? = some (some oi) := by
    intro i oi hi
    rw [List.getElem?_set] at hi
    split at hi
    · split at hi <;> cases hi
    · exact hi
  exact ⟨by simp [r.len], r.base, fun i o ho => r.obj i o (back i o ho), fun i j oi oj pi pj hi hj => r.sep i j oi oj pi pj (back i oi hi) (back j oj hj), fun i o pl k ho => r.pin i o pl k (back i o ho), fun i o pl ho => r.vis i o pl (back i o ho), r.fz, fun i o pl ho => r.fo i o pl (back i o ho), r.bf⟩
def aalloc (P : Program) (H : Heap) (t : TypeId) : Option (AV × Heap) :=
  match zeroC P t with
  | some cs => some (.ptr H.length 0 none (wid cs) (wid cs), H ++ [some ⟨.segs cs, true, none⟩])
  | none => none
def abox (H : Heap) (x : AV) : Option (AV × Heap) :=
  match cellsA x with
  | some cs => some (.ptr H.length 0 none (wid cs) (wid cs), H ++ [some ⟨.segs cs, true, none⟩])
  | none => none
theorem relV_newPtr {M : List Place} {H : Heap} {B : Base} {w : World} (r : RelH M H B w) (n : Nat) (size : Nat) : RelV (M ++ [newPlace w n size]) (.ptr H.length 0 none n n) (.pointer (some ⟨w.heap.size, 0, none⟩)) := by
  simp only [RelV, RelX]
  exact ⟨newPlace w n size, by rw [r.len]; simp, rfl, by simp [newPlace], by simp, by simp [newPlace]⟩
theorem new_var {P : Program} {M : List Place} {H : Heap} {B : Base} {w : World} (r : RelH M H B w) {t : TypeId} {v : Value} {cs : List AV} (hc : RelC M cs v.cells.toList) :
    ∃ w' M', (newVar t v).run P w = .ok ⟨w.heap.size, 0, none⟩ w' ∧ Ext M M' ∧ RelH M' (H ++ [some ⟨.segs cs, true, none⟩]) B w' ∧ Beneath B w w' ∧ RelV M' (.ptr H.length 0 none (wid cs) (wid cs)) (.pointer (some ⟨w.heap.size, 0, none⟩)) := by
  have hl := RelC_length hc
  simp at hl
  obtain ⟨h1, h2, h3⟩ := r.alloc (c := .segs cs) (cs := v.cells) (el := t) (n := wid cs) (by omega) (by
    rw [List.take_of_length_le (by simp; omega)]
    exact hc) true
  refine ⟨w.alloc (.cells v.cells t), _, ?_, h2, h1, h3, relV_newPtr r _ _⟩
  simp [newVar, newRow, newObj, Sem.run]
theorem aalloc_sound {P : Program} {M : List Place} {H : Heap} {B : Base} {w : World} (r : RelH M H B w) {ρ : Operand → Value} {o : Oper} {t : TypeId} (ho : o.op = .alloc t) {x : AV} {H' : Heap} (h : aalloc P H t = some (x, H')) :
    ∃ v w' M', (execOp ρ o).run P w = .ok (.value v) w' ∧ Ext M M' ∧ RelH M' H' B w' ∧ Beneath B w w' ∧ RelV M' x v := by
  unfold aalloc at h
  split at h
  · rename_i cs hz
    cases h
    obtain ⟨i, z, hi, hz', hrun, hrel⟩ := zeroC_rel hz
    obtain ⟨w', M', h1, h2, h3, h4, h5⟩ := new_var (P := P) r (t := t) (hrel M)
    refine ⟨_, w', M', ?_, h2, h3, h4, h5⟩
    simp [execOp, ho, Instr.alloc, hrun w, h1]
  · cases h
theorem abox_sound {P : Program} {M : List Place} {H : Heap} {B : Base} {w : World} (r : RelH M H B w) {ρ : Operand → Value} {o : Oper} {t : TypeId} {y : Operand} (ho : o.op = .box t y) {a : AV} (hy : RelV M a (ρ y)) {x : AV} {H' : Heap} (h : abox H a = some (x, H')) :
    ∃ v w' M', (execOp ρ o).run P w = .ok (.value v) w' ∧ Ext M M' ∧ RelH M' H' B w' ∧ Beneath B w w' ∧ RelV M' x v := by
  unfold abox at h
  split at h
  · rename_i cs hz
    cases h
    obtain ⟨w', M', h1, h2, h3, h4, h5⟩ := new_var (P := P) r (t := t) (cellsA_rel hy hz)
    refine ⟨_, w', M', ?_, h2, h3, h4, h5⟩
    simp [execOp, ho, Instr.box, h1]
  · cases h
def splice (k : IntKind) (l : List Int) (s : Nat) : AV → Option (List Int)
  | .int k' _ x => if k' = k then some (l.set s x) else none
  | .is k' m l' => if k' = k then some (l.take s ++ l' ++ l.drop (s + m)) else none
  | .agg [.is k' m l'] => if k' = k then some (l.take s ++ l' ++ l.drop (s + m)) else none
  | .agg cs => (toInts k cs).map fun l' => l.take s ++ l' ++ l.drop (s + l'.length)
  | _ => none
def dput : List AV → Nat → Nat → Nat → AV → Option (List AV)
  | [], _, _, _, _ => none
  | .is k n l :: r, p, span, d, y => if p + span ≤ n then (splice k l (padd p d) y).map fun l' => .is k n l' :: r else if n ≤ p then (dput r (p - n) span d y).map (.is k n l :: ·) else none
  | _ :: _, 0, _, _, _ => none
  | x :: r, p + 1, span, d, y => (dput r p span d y).map (x :: ·)
theorem splice_rel {M : List Place} {k : IntKind} {l : List Int} {s : Nat} {y : AV} {l' : List Int} (h : splice k l s y = some l') {v : Value} (hy : RelV M y v) (hk : ∀ x ∈ l, k.has x) (hs : s + v.cells.size ≤ l.length) :
    l'.map (Value.int k) = (l.map (.int k)).take s ++ v.cells.toList ++ (l.map (.int k)).drop (s + v.cells.size) ∧ (∀ x ∈ l', k.has x) := by
  have isc : ∀ (m : Nat) (l2 : List Int) (a : List Value), RelX M (.is k m l2) a → a = v.cells.toList →
      (l.take s ++ l2 ++ l.drop (s + m)).map (Value.int k) = (l.map (.int k)).take s ++ v.cells.toList ++ (l.map (.int k)).drop (s + v.cells.size) ∧ (∀ x ∈ l.take s ++ l2 ++ l.drop (s + m), k.has x) := by
    intro m l2 a ha hv
    obtain ⟨f1, f2, f3⟩ := RelX_is.1 ha
    have hm : v.cells.size = m := by
      have := congrArg List.length hv
      rw [f2] at this
      simp at this
      omega
    refine ⟨by rw [← hv, hm, f2]; simp [List.map_take, List.map_drop], fun z hz => ?_⟩
    simp only [List.mem_append] at hz
    rcases hz with (hz | hz) | hz
    · exact hk z (List.mem_of_mem_take hz)
    · exact f3 z hz
    · exact hk z (List.mem_of_mem_drop hz)
  unfold splice at h
  split at h
  · rename_i k' lit x
    split at h
    · rename_i hkk
      subst hkk
      cases h
      obtain ⟨e, hx, _⟩ := relV_int hy
      subst e
      simp only [Value.cells] at *
      simp only [List.size_toArray, List.length_cons, List.length_nil] at hs
      refine ⟨by rw [set_map (by omega)]; simp, fun z hz => ?_⟩
      rcases List.mem_or_eq_of_mem_set hz with hz | rfl
      · exact hk z hz
      · exact hx
    · cases h
  · rename_i k' m l2
    split at h
    · rename_i hkk
      subst hkk
      cases h
      refine isc m l2 [v] hy ?_
      obtain ⟨f1, f2, f3⟩ := RelX_is.1 hy
      cases l2 with
      | nil => simp at f2
      | cons z t => simp at f2; rw [f2.1]; rfl
    · cases h
  · rename_i k' m l2
    split at h
    · rename_i hkk
      subst hkk
      cases h
      obtain ⟨vs, hv, hc⟩ := RelX_agg.1 hy
      have hv : v = .agg vs := by simpa using hv
      subst hv
      exact isc m l2 _ (RelC_single.1 hc) rfl
    · cases h
  · rename_i cs _
    simp only [Option.map_eq_some_iff] at h
    obtain ⟨l2, hl2, rfl⟩ := h
    obtain ⟨vs, hv, hc⟩ := RelX_agg.1 hy
    have hv : v = .agg vs := by simpa using hv
    subst hv
    obtain ⟨g1, g2⟩ := toInts_rel hc hl2
    have := isc l2.length l2 _ (RelX_is.2 ⟨rfl, g1, g2⟩) rfl
    exact this
  · cases h
theorem dput_rel {M : List Place} : ∀ {cs : List AV} {vs : List Value} {p span d : Nat} {y : AV} {v : Value} {r : List AV}, RelC M cs vs → RelV M y v → d + v.cells.size ≤ span → dput cs p span d y = some r →
    p + span ≤ vs.length ∧ RelC M r (vs.take (p + d) ++ v.cells.toList ++ vs.drop (p + d + v.cells.size))
  | [], _, _, _, _, _, _, _, _, _, _, h => by simp [dput] at h
  | c :: cs, vs, p, span, d, y, v, r, hc, hy, hd, h => by
    obtain ⟨b, t, rfl, hx, hr⟩ := RelC_cons.1 hc
    have hl := RelX_length hx
    by_cases his : ∃ k n l, c = .is k n l
    · obtain ⟨k, n, l, rfl⟩ := his
      obtain ⟨h1, h2, h3⟩ := RelX_is.1 hx
      simp only [width] at hl
      simp only [dput] at h
      split at h
      · rename_i hs
        simp only [Option.map_eq_some_iff] at h
        obtain ⟨l', hq, rfl⟩ := h
        rw [padd_eq] at hq
        obtain ⟨g1, g2⟩ := splice_rel hq hy h3 (by omega)
        refine ⟨by simp; omega, RelC_cons.2 ⟨l'.map (.int k), t, ?_, RelX_is.2 ⟨?_, rfl, g2⟩, hr⟩⟩
        · rw [g1, ← h2, List.take_append_of_le_length (by omega), List.drop_append_of_le_length (by omega)]
          simp
        · have := congrArg List.length g1
          simp at this
          omega
      · split at h
        · rename_i hs1 hs2
          simp only [Option.map_eq_some_iff] at h
          obtain ⟨r', hq, rfl⟩ := h
          obtain ⟨g1, g2⟩ := dput_rel hr hy hd hq
          refine ⟨by simp; omega, RelC_cons.2 ⟨b, _, ?_, hx, g2⟩⟩
          rw [List.take_append, List.take_of_length_le (show b.length ≤ p + d by omega), List.drop_append, List.drop_of_length_le (show b.length ≤ p + d + v.cells.size by omega), List.nil_append, hl,
            show p + d - n = p - n + d by omega, show p + d + v.cells.size - n = p - n + d + v.cells.size by omega]
          simp
        · cases h
    · have hw : width c = 1 := by
        cases c <;> first | rfl | (exfalso; exact his ⟨_, _, _, rfl⟩)
      rw [hw] at hl
      obtain ⟨u, rfl⟩ := List.length_eq_one_iff.1 hl
      cases p with
      | zero =>
        have : dput (c :: cs) 0 span d y = none := by
          cases c <;> first | rfl | (exfalso; exact his ⟨_, _, _, rfl⟩)
        rw [this] at h
        cases h
      | succ p =>
        have : dput (c :: cs) (p + 1) span d y = (dput cs p span d y).map (c :: ·) := by
          cases c <;> first | rfl | (exfalso; exact his ⟨_, _, _, rfl⟩)
        rw [this] at h
        simp only [Option.map_eq_some_iff] at h
        obtain ⟨r', hq, rfl⟩ := h
        obtain ⟨g1, g2⟩ := dput_rel hr hy hd hq
        refine ⟨by simp; omega, RelC_cons.2 ⟨[u], _, ?_, hx, g2⟩⟩
        rw [show p + 1 + d = p + d + 1 by omega, show p + d + 1 + v.cells.size = p + d + v.cells.size + 1 by omega]
        simp
def storable (x : AV) : Bool :=
  match cellsA x with
  | some cs => cs.all fun c => match c with
    | .is _ _ _ => true
    | c => scal c
  | none => false
theorem storable_all {M : List Place} : ∀ {cs : List AV} {vs : List Value}, RelC M cs vs → (cs.all fun c => match c with | .is _ _ _ => true | c => scal c) = true → ∀ v ∈ vs, v.oneCell' = true
  | [], vs, h, _ => by rw [RelC_nil] at h; subst h; simp
  | c :: cs, vs, h, hs => by
    obtain ⟨b, t, rfl, hx, hr⟩ := RelC_cons.1 h
    simp only [List.all_cons, Bool.and_eq_true] at hs
    intro v hv
    rcases List.mem_append.1 hv with hv | hv
    · by_cases his : ∃ k n l, c = .is k n l
      · obtain ⟨k, n, l, rfl⟩ := his
        obtain ⟨h1, h2, h3⟩ := RelX_is.1 hx
        rw [h2] at hv
        obtain ⟨z, _, rfl⟩ := List.mem_map.1 hv
        rfl
      · have h1 : scal c = true := by
          have := hs.1
          cases c <;> first | exact this | (exfalso; exact his ⟨_, _, _, rfl⟩)
        obtain ⟨u, rfl, hu⟩ := scal_one h1 hx
        rw [List.mem_singleton] at hv
        subst hv
        exact hu
    · exact storable_all hr hs.2 v hv
def astore (P : Program) (H : Heap) (t : TypeId) (p x : AV) : Option Heap :=
  match cellsA x with
  | none => none
  | some xs =>
    if storable x = true ∧ sizeT P t = some (wid xs) then
      match p with
      | .ptr b base dyn room span => match H[b]? with
        | some (some ⟨.segs cs, true, pn⟩) => if wid xs ≤ room then
            (match dyn with
             | none => (putC cs base xs).map fun cs' => H.set b (some ⟨.segs cs', true, pn⟩)
             | some d => (dput cs base span d x).map fun cs' => H.set b (some ⟨.segs cs', true, pn⟩))
          else none
        | _ => none
      | .rptr b off room => match H[b]? with
        | some (some ⟨.row k l, true, pn⟩) => if wid xs ≤ room then (splice k l off x).map fun l' => H.set b (some ⟨.row k l', true, pn⟩) else none
        | some (some ⟨.segs [.is k n l], true, pn⟩) => if wid xs ≤ room then (splice k l off x).map fun l' => H.set b (some ⟨.segs [.is k n l'], true, pn⟩) else none
        | _ => none
      | _ => none
    else none
theorem astore_sound {P : Program} {M : List Place} {H : Heap} {B : Base} {w : World} (r : RelH M H B w) {ρ : Operand → Value} {o : Oper} {t : TypeId} {y z : Operand} (ho : o.op = .store t y z) {p x : AV} (hp : RelV M p (ρ y)) (hx : RelV M x (ρ z))
    {H' : Heap} (h : astore P H t p x = some H') : ∃ w', (execOp ρ o).run P w = .ok .skip w' ∧ RelH M H' B w' ∧ Beneath B w w' := by
  unfold astore at h
  split at h
  · cases h
  rename_i xs hxs
  split at h
  · rename_i hcond
    obtain ⟨hst, hsz⟩ := hcond
    have hcx := cellsA_rel hx hxs
    have hlx : (ρ z).cells.size = wid xs := by simpa using RelC_length hcx
    have hone : ∀ v ∈ (ρ z).cells.toList, v.oneCell' = true := by
      unfold storable at hst
      rw [hxs] at hst
      exact storable_all hcx hst
    have run : ∀ (blk off : Nat) (cells : Array Value) (el : TypeId) (fz : Nat × Nat), ρ y = .pointer (some ⟨blk, off, none⟩) → w.heap[blk]? = some (.cells cells el fz) → FzOk fz cells.size → off + wid xs ≤ cells.size →
        (execOp ρ o).run P w = .ok .skip (w.setRow blk (cells.toList.take off ++ (ρ z).cells.toList ++ cells.toList.drop (off + wid xs)).toArray) := by
      intro blk off cells el fz hy hg hfz hle
      have hs := run_storeCells_fz P blk off el fz (ρ z).cells.toList 0 cells w hg hfz (by simp; omega) hone
      simp only [Nat.add_zero, Array.length_toList, hlx] at hs
      simp [execOp, ho, hy, Instr.storeAt, Instr.sureAddr, storeVar, run_sizeT hsz, hlx, hs]
    split at h
    · rename_i b base dyn room span
      simp only [RelV, RelX] at hp
      obtain ⟨pl, hpl, hnil, hv, hd1, hd2⟩ := hp
      have hv : ρ y = .pointer (some ⟨pl.blk, pl.off + (base + dyn.getD 0), none⟩) := by simpa using hv
      split at h
      · rename_i cs pn hob
        obtain ⟨pl', hpl', hok⟩ := r.obj b _ hob
        rw [hpl] at hpl'; cases hpl'
        rcases hok with ⟨hn, _⟩ | ⟨_, cells, el, fz, hg, hs1, hs2, hro, hown⟩
        · rw [hnil] at hn; cases hn
        obtain ⟨hfz, hoff, hB⟩ := hown rfl
        simp only [RelO] at hro
        split at h
        · rename_i hroom
          have hrun := run pl.blk (pl.off + (base + dyn.getD 0)) cells el fz hv hg hfz (by omega)
          refine ⟨_, hrun, ?_⟩
          have sub : ∀ (q : Nat), q + wid xs ≤ pl.n → (((cells.toList.take (pl.off + q) ++ (ρ z).cells.toList ++ cells.toList.drop (pl.off + q + wid xs)).drop pl.off).take pl.n) =
              ((cells.toList.drop pl.off).take pl.n).take q ++ (ρ z).cells.toList ++ ((cells.toList.drop pl.off).take pl.n).drop (q + (ρ z).cells.toList.length) := by
            intro q hq
            rw [hoff]
            simp only [Nat.zero_add, List.drop_zero, Array.length_toList, hlx]
            rw [List.take_append, List.take_of_length_le (show (List.take q cells.toList ++ (ρ z).cells.toList).length ≤ pl.n by simp; omega), List.take_take, Nat.min_eq_left (by omega)]
            congr 1
            rw [List.drop_take]
            congr 1
            simp
            omega
          cases dyn with
          | none =>
            simp only [Option.map_eq_some_iff] at h
            obtain ⟨cs', hq, rfl⟩ := h
            obtain ⟨_, g2⟩ := putC_rel hro hcx hq
            simp only [Option.getD_none, Nat.zero_add, Nat.add_zero] at *
            exact r.write hob rfl hpl hnil hg (by simp; omega) (by rw [List.toList_toArray, sub base (by omega)]; exact g2)
          | some d =>
            simp only [Option.map_eq_some_iff] at h
            obtain ⟨cs', hq, rfl⟩ := h
            simp only [Option.getD_some] at *
            obtain ⟨_, g2⟩ := dput_rel hro hx (by omega) hq
            exact r.write hob rfl hpl hnil hg (by simp; omega) (by rw [List.toList_toArray, sub (base + d) (by omega)]; simpa [RelO] using g2)
        · cases h
      · cases h
    · rename_i b off room
      simp only [RelV, RelX] at hp
      obtain ⟨pl, hpl, hnil, hv, hd1⟩ := hp
      have hv : ρ y = .pointer (some ⟨pl.blk, pl.off + off, none⟩) := by simpa using hv
      have key : ∀ (o' : AObj) (k : IntKind) (l l' : List Int) (c' : Cont), H[b]? = some (some o') → o'.own = true → (∀ vs, RelO M o'.c vs → vs = l.map (.int k) ∧ (∀ x ∈ l, k.has x)) →
          splice k l off x = some l' → wid xs ≤ room → (∀ vs, vs = l'.map (.int k) → (∀ x ∈ l', k.has x) → l'.length = l.length → RelO M c' vs) →
          ∃ w', (execOp ρ o).run P w = .ok .skip w' ∧ RelH M (H.set b (some { o' with c := c' })) B w' ∧ Beneath B w w' := by
        intro o' k l l' c' hob hown' hrel hspl hroom hnew
        obtain ⟨pl', hpl', hok⟩ := r.obj b _ hob
        rw [hpl] at hpl'; cases hpl'
        rcases hok with ⟨hn, _⟩ | ⟨_, cells, el, fz, hg, hs1, hs2, hro, hown⟩
        · rw [hnil] at hn; cases hn
        obtain ⟨hfz, hoff, hB⟩ := hown hown'
        obtain ⟨e1, e2⟩ := hrel _ hro
        have hlen : l.length = pl.n := by
          have := congrArg List.length e1
          simp at this
          omega
        obtain ⟨g1, g2⟩ := splice_rel hspl hx e2 (by omega)
        have hll : l'.length = l.length := by
          have := congrArg List.length g1
          simp at this
          omega
        refine ⟨_, run pl.blk (pl.off + off) cells el fz hv hg hfz (by omega), ?_⟩
        refine r.write hob hown' hpl hnil hg (by simp; omega) (hnew _ ?_ g2 hll)
        rw [List.toList_toArray, g1, ← e1, hoff, hlx]
        simp only [Nat.zero_add, List.drop_zero]
        rw [List.take_append, List.take_of_length_le (show (List.take off cells.toList ++ (ρ z).cells.toList).length ≤ pl.n by simp; omega), List.take_take, Nat.min_eq_left (by omega)]
        congr 1
        rw [List.drop_take]
        congr 1
        simp
        omega
      split at h
      · rename_i k l pn hob
        split at h
        · rename_i hroom
          simp only [Option.map_eq_some_iff] at h
          obtain ⟨l', hq, rfl⟩ := h
          exact key ⟨.row k l, true, pn⟩ k l l' (.row k l') hob rfl (fun vs hvs => hvs) hq hroom (fun vs e1 e2 _ => ⟨e1, e2⟩)
        · cases h
      · rename_i k n l pn hob
        split at h
        · rename_i hroom
          simp only [Option.map_eq_some_iff] at h
          obtain ⟨l', hq, rfl⟩ := h
          have hn : ∃ vs, RelO M (.segs [.is k n l]) vs := by
            obtain ⟨pl', hpl', hok⟩ := r.obj b _ hob
            rcases hok with ⟨_, _, hro⟩ | ⟨_, cells, el, fz, hg, hs1, hs2, hro, hown⟩
            · exact ⟨_, hro⟩
            · exact ⟨_, hro⟩
          obtain ⟨vs0, hvs0⟩ := hn
          simp only [RelO, RelC_single, RelX_is] at hvs0
          exact key ⟨.segs [.is k n l], true, pn⟩ k l l' (.segs [.is k n l']) hob rfl (fun vs hvs => by
            simp only [RelO, RelC_single, RelX_is] at hvs
            exact ⟨hvs.2.1, hvs.2.2⟩) hq hroom (fun vs e1 e2 e3 => by
            simp only [RelO, RelC_single, RelX_is]
            exact ⟨by rw [e3]; exact hvs0.1, e1, e2⟩)
        · cases h
      · cases h
    · cases h
  · cases h
end Go.AE
set_option linter.unusedVariables false
set_option linter.unusedSimpArgs false
namespace Go.AE
open Go Go.RowKit
def apick (c a b : AV) : Option AV :=
  match c with
  | .bool (some t) _ => some (if t then a else b)
  | .bool none t => match a, b with
    | .bool _ x, .bool _ y => some (.bool none (cond t x y))
    | .int k _ x, .int k' _ y => if k' = k then some (.int k none (cond t x y)) else none
    | _, _ => none
  | _ => none
theorem apick_sound {P : Program} {M : List Place} {ρ : Operand → Value} {o : Oper} {c x y : Operand} (ho : o.op = .pick c x y) {ac ax ay : AV} (hc : RelV M ac (ρ c)) (hx : RelV M ax (ρ x)) (hy : RelV M ay (ρ y))
    {r : AV} (h : apick ac ax ay = some r) : ∃ v, RelV M r v ∧ ∀ w, (execOp ρ o).run P w = .ok (.value v) w := by
  unfold apick at h
  split at h
  · rename_i t z
    obtain ⟨e, hl⟩ := relV_bool hc
    have := hl t rfl
    subst this
    cases h
    refine ⟨if z then ρ x else ρ y, by cases z <;> simp [hx, hy], fun w => ?_⟩
    simp [execOp, ho, e, asBool]
  · rename_i t
    obtain ⟨e, _⟩ := relV_bool hc
    have run : ∀ w, (execOp ρ o).run P w = .ok (.value (if t then ρ x else ρ y)) w := fun w => by simp [execOp, ho, e, asBool]
    split at h
    · rename_i l1 x1 l2 y1
      cases h
      obtain ⟨e1, _⟩ := relV_bool hx
      obtain ⟨e2, _⟩ := relV_bool hy
      refine ⟨_, ?_, run⟩
      cases t <;> simp [RelV, RelX, e1, e2]
    · rename_i k l1 x1 k' l2 y1
      split at h
      · rename_i hk
        subst hk
        cases h
        obtain ⟨e1, h1, _⟩ := relV_int hx
        obtain ⟨e2, h2, _⟩ := relV_int hy
        refine ⟨_, ?_, run⟩
        cases t <;> simp [RelV, RelX, e1, e2, h1, h2]
      · cases h
    · cases h
  · cases h
theorem foldl_set (off : Nat) : ∀ (l : List Value) (i : Nat) (cells : Array Value), off + i + l.length ≤ cells.size →
    ((l.zipIdx i).foldl (fun cs (x : Value × Nat) => cs.setIfInBounds (off + x.2) x.1) cells).toList = cells.toList.take (off + i) ++ l ++ cells.toList.drop (off + i + l.length)
  | [], i, cells, _ => by simp
  | v :: l, i, cells, h => by
    simp only [List.zipIdx_cons, List.foldl_cons]
    rw [foldl_set off l (i + 1) _ (by simp at h ⊢; omega)]
    simp only [Array.toList_setIfInBounds]
    have hlt : off + i < cells.toList.length := by simp at h ⊢; omega
    rw [List.set_eq_take_append_cons_drop, if_pos hlt]
    have e1 : (List.take (off + i) cells.toList ++ v :: List.drop (off + i + 1) cells.toList).take (off + (i + 1)) = cells.toList.take (off + i) ++ [v] := by
      rw [List.take_append, List.take_of_length_le (by simp; omega), List.length_take, Nat.min_eq_left (by omega), show off + (i + 1) - (off + i) = 1 by omega]
      simp
    have e2 : (List.take (off + i) cells.toList ++ v :: List.drop (off + i + 1) cells.toList).drop (off + (i + 1) + l.length) = cells.toList.drop (off + i + (v :: l).length) := by
      rw [List.drop_append, List.drop_of_length_le (by simp; omega), List.nil_append, List.length_take, Nat.min_eq_left (by omega), show off + (i + 1) + l.length - (off + i) = l.length + 1 by omega]
      simp
      congr 1
      omega
    rw [e1, e2]
    simp
theorem fill_step {place : Nat → Option (Nat × Nat)} {cells : Array Value} {i off size : Nat} {v : Value} {rest : List (Nat × Value)} (hp : place i = some (off, size)) (hs : v.cells.size = size) (hle : off + size ≤ cells.size) :
    ∃ cells' : Array Value, Instr.fill place cells ((i, v) :: rest) = Instr.fill place cells' rest ∧ cells'.toList = cells.toList.take off ++ v.cells.toList ++ cells.toList.drop (off + size) := by
  refine ⟨(v.cells.zipIdx.foldl (fun cs (x : Value × Nat) => cs.setIfInBounds (off + x.2) x.1) cells), ?_, ?_⟩
  · simp only [Instr.fill, hp]
    rw [if_neg]
    simp [hs]
    omega
  · have h := foldl_set off v.cells.toList 0 cells (by simp; omega)
    rw [← Array.foldl_toList, Array.toList_zipIdx]
    simpa [hs] using h
def consec (place : Nat → Option (Nat × Nat)) : List (Nat × AV) → Nat → Option (List AV × Nat)
  | [], p => some ([], p)
  | (i, x) :: r, p => match place i, cellsA x with
    | some (off, size), some xs => if off = p ∧ wid xs = size then (consec place r (p + size)).map fun z => (xs ++ z.1, z.2) else none
    | _, _ => none
def laidIn (place : Nat → Option (Nat × Nat)) : List (Nat × AV) → List AV → Option (List AV)
  | [], cs => some cs
  | (i, x) :: r, cs => match place i, cellsA x with
    | some (off, size), some xs => if wid xs = size ∧ 1 ≤ size then (match putC cs off xs with | some cs' => laidIn place r cs' | none => none) else none
    | _, _ => none
theorem RelC_append {M : List Place} : ∀ {xs ys : List AV} {a b : List Value}, RelC M xs a → RelC M ys b → RelC M (xs ++ ys) (a ++ b)
  | [], ys, a, b, h1, h2 => by rw [RelC_nil] at h1; subst h1; simpa using h2
  | x :: xs, ys, a, b, h1, h2 => by
    obtain ⟨c, t, rfl, hx, hr⟩ := RelC_cons.1 h1
    rw [List.cons_append, List.append_assoc]
    exact RelC_cons.2 ⟨c, t ++ b, rfl, hx, RelC_append hr h2⟩
def RelP (M : List Place) (as : List (Nat × AV)) (vs : List (Nat × Value)) : Prop :=
  as.length = vs.length ∧ ∀ (i : Nat) (a : Nat × AV) (v : Nat × Value), as[i]? = some a → vs[i]? = some v → a.1 = v.1 ∧ RelV M a.2 v.2
theorem RelP_cons {M : List Place} {a : Nat × AV} {as : List (Nat × AV)} {vs : List (Nat × Value)} (h : RelP M (a :: as) vs) : ∃ v r, vs = (a.1, v) :: r ∧ RelV M a.2 v ∧ RelP M as r := by
  cases vs with
  | nil => have := h.1; simp at this
  | cons v r =>
    obtain ⟨e, hr⟩ := h.2 0 a v rfl rfl
    refine ⟨v.2, r, by rw [e], hr, by have := h.1; simpa using this, fun i x y hx hy => h.2 (i + 1) x y (by simpa using hx) (by simpa using hy)⟩
theorem relP_map {M : List Place} {st : Operand → AV} {ρ : Operand → Value} (h : ∀ x, RelV M (st x) (ρ x)) : ∀ (l : List (Nat × Operand)), RelP M (l.map fun z => (z.1, st z.2)) (l.map fun z => (z.1, ρ z.2)) := by
  intro l
  refine ⟨by simp, fun i a v ha hv => ?_⟩
  simp only [List.getElem?_map, Option.map_eq_some_iff] at ha hv
  obtain ⟨z, hz, rfl⟩ := ha
  obtain ⟨z', hz', rfl⟩ := hv
  rw [hz] at hz'
  cases hz'
  exact ⟨rfl, h _⟩
theorem consec_fill {M : List Place} {place : Nat → Option (Nat × Nat)} : ∀ {as : List (Nat × AV)} {vs : List (Nat × Value)} {p e : Nat} {cs : List AV} {cells : Array Value}, RelP M as vs → consec place as p = some (cs, e) → e ≤ cells.size →
    p ≤ e ∧ ∃ cells' : Array Value, Instr.fill place cells vs = some cells' ∧ ∃ us, RelC M cs us ∧ us.length = e - p ∧ cells'.toList = cells.toList.take p ++ us ++ cells.toList.drop e
  | [], vs, p, e, cs, cells, hr, h, hle => by
    have : vs = [] := by have := hr.1; simpa using this.symm
    subst this
    simp only [consec, Option.some.injEq, Prod.mk.injEq] at h
    obtain ⟨rfl, rfl⟩ := h
    exact ⟨Nat.le_refl _, cells, rfl, [], RelC_nil.2 rfl, by simp, by simp⟩
  | (i, x) :: as, vs, p, e, cs, cells, hr, h, hle => by
    obtain ⟨v, r, rfl, hx, hr'⟩ := RelP_cons hr
    simp only [consec] at h
    split at h
    · rename_i off size xs hp hxs
      split at h
      · rename_i hc
        obtain ⟨rfl, hw⟩ := hc
        simp only [Option.map_eq_some_iff, Prod.mk.injEq] at h
        obtain ⟨⟨cs', e'⟩, hq, rfl, rfl⟩ := h
        have hcx := cellsA_rel hx hxs
        have hlx : v.cells.size = size := by have := RelC_length hcx; simp at this; omega
        have hmono : off + size ≤ e' := by
          have : ∀ (as : List (Nat × AV)) (p e : Nat) (cs : List AV), consec place as p = some (cs, e) → p ≤ e := by
            intro as
            induction as with
            | nil => intro p e cs h; simp [consec] at h; omega
            | cons a as ih =>
              intro p e cs h
              obtain ⟨i, x⟩ := a
              simp only [consec] at h
              split at h
              · split at h
                · simp only [Option.map_eq_some_iff, Prod.mk.injEq] at h
                  obtain ⟨⟨c1, e1⟩, hq, _, rfl⟩ := h
                  have := ih _ _ _ hq
                  omega
                · cases h
              · cases h
          exact this _ _ _ _ hq
        obtain ⟨cells1, hf, ht⟩ := fill_step (rest := r) hp hlx (cells := cells) (by omega)
        have hs1 : cells1.size = cells.size := by
          have := congrArg List.length ht
          simp at this
          omega
        obtain ⟨g1, cells2, g2, us, g3, g4, g5⟩ := consec_fill (cells := cells1) hr' hq (by omega)
        refine ⟨by omega, cells2, by rw [hf]; exact g2, v.cells.toList ++ us, RelC_append hcx g3, by simp; omega, ?_⟩
        rw [g5, ht]
        have e1 : (List.take off cells.toList ++ v.cells.toList ++ List.drop (off + size) cells.toList).take (off + size) = List.take off cells.toList ++ v.cells.toList := by
          rw [List.take_append_of_le_length (by simp; omega)]
          exact List.take_of_length_le (by simp; omega)
        have e2 : (List.take off cells.toList ++ v.cells.toList ++ List.drop (off + size) cells.toList).drop e' = cells.toList.drop e' := by
          rw [List.drop_append, List.drop_of_length_le (by simp; omega), List.nil_append, List.drop_drop]
          congr 1
          simp
          omega
        rw [e1, e2]
        simp
      · cases h
    · cases h
theorem laidIn_fill {M : List Place} {place : Nat → Option (Nat × Nat)} : ∀ {as : List (Nat × AV)} {vs : List (Nat × Value)} {cs r : List AV} {cells : Array Value}, RelP M as vs → RelC M cs cells.toList → laidIn place as cs = some r →
    ∃ cells' : Array Value, Instr.fill place cells vs = some cells' ∧ RelC M r cells'.toList ∧ cells'.size = cells.size
  | [], vs, cs, r, cells, hr, hc, h => by
    have : vs = [] := by have := hr.1; simpa using this.symm
    subst this
    simp only [laidIn, Option.some.injEq] at h
    subst h
    exact ⟨cells, rfl, hc, rfl⟩
  | (i, x) :: as, vs, cs, r, cells, hr, hc, h => by
    obtain ⟨v, t, rfl, hx, hr'⟩ := RelP_cons hr
    simp only [laidIn] at h
    split at h
    · rename_i off size xs hp hxs
      split at h
      · rename_i hw
        obtain ⟨hw, h1s⟩ := hw
        have hcx := cellsA_rel hx hxs
        have hlx : v.cells.size = size := by have := RelC_length hcx; simp at this; omega
        split at h
        · rename_i cs' hput
          obtain ⟨g1, g2⟩ := putC_rel hc hcx hput
          simp only [Array.length_toList, hlx] at g1 g2
          by_cases hle : off + size ≤ cells.size
          · obtain ⟨cells1, hf, ht⟩ := fill_step (rest := t) hp hlx hle
            rw [← ht] at g2
            obtain ⟨cells2, f1, f2, f3⟩ := laidIn_fill (cells := cells1) hr' g2 h
            refine ⟨cells2, by rw [hf]; exact f1, f2, ?_⟩
            have := congrArg List.length ht
            simp at this
            omega
          · exfalso
            rcases g1 with g1 | g1
            · omega
            · have h0 := congrArg List.length g1
              simp only [Array.length_toList, List.length_nil] at h0
              omega
        · cases h
      · cases h
    · cases h
def norm1 (cs : List AV) : List AV :=
  match oneKind cs with
  | some (k, n) => match toInts k cs with
    | some l => [.is k n l]
    | none => cs
  | none => cs
theorem oneKind_wid : ∀ {cs : List AV} {k : IntKind} {n : Nat}, oneKind cs = some (k, n) → wid cs = n
  | [], _, _, h => by simp [oneKind] at h
  | c :: r, k, n, h => by
    unfold oneKind at h
    split at h
    · rename_i heq; cases heq
    · rename_i heq
      injection heq with e1 e2
      subst e1; subst e2
      cases h
      rfl
    · rename_i heq
      injection heq with e1 e2
      subst e1; subst e2
      cases h
      rfl
    · rename_i r' _ heq
      injection heq with e1 e2
      subst e1; subst e2
      split at h
      · rename_i k' n' hq
        split at h
        · cases h
          rw [wid_eq]
          have := oneKind_wid hq
          rw [wid_eq] at this
          simp [this, width]
          omega
        · cases h
      · cases h
    · rename_i r' _ heq
      injection heq with e1 e2
      subst e1; subst e2
      split at h
      · rename_i k' n' hq
        split at h
        · cases h
          rw [wid_eq]
          have := oneKind_wid hq
          rw [wid_eq] at this
          simp [this, width]
          omega
        · cases h
      · cases h
    · cases h
theorem norm1_rel {M : List Place} {cs : List AV} {vs : List Value} (h : RelC M cs vs) : RelC M (norm1 cs) vs := by
  unfold norm1
  split
  · rename_i k n hk
    split
    · rename_i l hl
      obtain ⟨e1, e2⟩ := toInts_rel h hl
      rw [RelC_single, RelX_is]
      refine ⟨?_, e1, e2⟩
      have h1 := RelC_length h
      have h2 := oneKind_wid hk
      rw [e1] at h1
      simp at h1
      omega
    · exact h
  · exact h
def placeS (P : Program) (fs : Array Field) (i : Nat) : Option (Nat × Nat) :=
  match fs[i]? with
  | some f => (sizeT P f.type).map fun s => (f.offset, s)
  | none => none
def placeA (size : Nat) (i : Nat) : Option (Nat × Nat) := some (i * size, size)
def abuildC (P : Program) (t : TypeId) (place : Nat → Option (Nat × Nat)) (parts : List (Nat × AV)) : Option (List AV) :=
  match sizeT P t with
  | none => none
  | some n =>
    match consec place parts 0 with
    | some (cs, e) => if e = n then some cs else (match zeroC P t with | some z => laidIn place parts z | none => none)
    | none => match zeroC P t with | some z => laidIn place parts z | none => none
def abuild (P : Program) (t : TypeId) (parts : List (Nat × AV)) : Option AV :=
  match zeroC P t with
  | none => none
  | some z =>
    if sizeT P t = some (wid z) then
      match P.underlying t with
      | some (.struct fs) => if fs.toList.all (fun f => (sizeT P f.type).isSome) then (abuildC P t (placeS P fs) parts).map .agg else none
      | some (.array _ e) => match sizeT P e with
        | some s => (abuildC P t (placeA s) parts).map fun cs => .agg (norm1 cs)
        | none => none
      | _ => none
    else none
theorem abuildC_rel {P : Program} {M : List Place} {t : TypeId} {place : Nat → Option (Nat × Nat)} {as : List (Nat × AV)} {vs : List (Nat × Value)} {cs : List AV} {cells : Array Value} (hr : RelP M as vs) (hz : ∀ z, zeroC P t = some z → RelC M z cells.toList)
    (hs : sizeT P t = some cells.size) (h : abuildC P t place as = some cs) : ∃ cells' : Array Value, Instr.fill place cells vs = some cells' ∧ RelC M cs cells'.toList := by
  unfold abuildC at h
  rw [hs] at h
  simp only at h
  have laid : ∀ r, (match zeroC P t with | some z => laidIn place as z | none => none) = some r → ∃ cells' : Array Value, Instr.fill place cells vs = some cells' ∧ RelC M r cells'.toList := by
    intro r hr'
    split at hr'
    · rename_i z hzz
      obtain ⟨c', h1, h2, _⟩ := laidIn_fill hr (hz z hzz) hr'
      exact ⟨c', h1, h2⟩
    · cases hr'
  split at h
  · rename_i cs' e hc
    split at h
    · rename_i he
      cases h
      subst he
      obtain ⟨_, c', h1, us, h2, h3, h4⟩ := consec_fill hr hc (Nat.le_refl _)
      refine ⟨c', h1, ?_⟩
      rw [h4, List.drop_of_length_le (by simp)]
      simpa using h2
    · exact laid _ h
  · exact laid _ h
theorem run_places {P : Program} : ∀ {fs : List Field}, fs.all (fun f => (sizeT P f.type).isSome) = true → ∀ w, (fs.mapM fun f => (Prod.mk f.offset <$> sizeOf f.type : Sem (Nat × Nat))).run P w = .ok (fs.map fun f => (f.offset, (sizeT P f.type).getD 0)) w
  | [], _, w => by simp
  | f :: fs, h, w => by
    simp only [List.all_cons, Bool.and_eq_true] at h
    obtain ⟨s, hs⟩ := Option.isSome_iff_exists.1 h.1
    have ih := run_places h.2 w
    simp [run_sizeT hs, ih, hs]
theorem abuild_sound {P : Program} {M : List Place} {ρ : Operand → Value} {g : Operand → AV} (hg : ∀ x, RelV M (g x) (ρ x)) {o : Oper} {t : TypeId} {parts : Array (Nat × Operand)} (ho : o.op = .build t parts)
    {r : AV} (h : abuild P t (parts.toList.map fun z => (z.1, g z.2)) = some r) : ∃ v, RelV M r v ∧ ∀ w, (execOp ρ o).run P w = .ok (.value v) w := by
  unfold abuild at h
  have hp := relP_map hg parts.toList
  split at h
  · cases h
  rename_i z hz
  obtain ⟨i, zv, hi, hzv, hzrun, hzrel⟩ := zeroC_rel hz
  split at h
  · rename_i hsz
    have hlen : zv.cells.size = wid z := by have := RelC_length (hzrel M); simpa using this
    rw [← hlen] at hsz
    have hzz : ∀ z', zeroC P t = some z' → RelC M z' zv.cells.toList := fun z' hz' => by
      rw [hz] at hz'; cases hz'; exact hzrel M
    split at h
    · rename_i fs hu
      split at h
      · rename_i hall
        simp only [Option.map_eq_some_iff] at h
        obtain ⟨cs, hcs, rfl⟩ := h
        obtain ⟨cells', h1, h2⟩ := abuildC_rel hp hzz hsz hcs
        refine ⟨.agg cells', RelX_agg.2 ⟨_, rfl, h2⟩, fun w => ?_⟩
        have hpl := run_places (P := P) hall w
        have hfill : Instr.fill (fun i => Option.map (fun f : Field => (f.offset, (sizeT P f.type).getD 0)) fs[i]?) zv.cells (parts.toList.map fun z => (z.1, ρ z.2)) = some cells' := by
          rw [← h1]
          congr 1
          funext i
          simp only [placeS]
          cases hfi : fs[i]? with
          | none => simp
          | some f =>
            have hmem : f ∈ fs.toList := by
              have := Array.mem_of_getElem? hfi
              exact Array.mem_toList_iff.2 this
            have := List.all_eq_true.1 hall f hmem
            obtain ⟨s, hs⟩ := Option.isSome_iff_exists.1 this
            simp [hs]
        simp [execOp, ho, Instr.build, hzrun w, run_underlying hu, Array.mapM_eq_mapM_toList, hpl, hfill]
      · cases h
    · rename_i n e hu
      split at h
      · rename_i s hs
        simp only [Option.map_eq_some_iff] at h
        obtain ⟨cs, hcs, rfl⟩ := h
        obtain ⟨cells', h1, h2⟩ := abuildC_rel hp hzz hsz hcs
        refine ⟨.agg cells', RelX_agg.2 ⟨_, rfl, norm1_rel h2⟩, fun w => ?_⟩
        have hfill : Instr.fill (fun i => some (i * s, s)) zv.cells (parts.toList.map fun z => (z.1, ρ z.2)) = some cells' := h1
        simp [execOp, ho, Instr.build, hzrun w, run_underlying hu, run_sizeT hs, hfill]
      · cases h
    · cases h
  · cases h
end Go.AE
set_option linter.unusedVariables false
set_option linter.unusedSimpArgs false
namespace Go.AE
open Go Go.RowKit
def flatInt (P : Program) : Nat → TypeId → IntKind → Option Nat
  | 0, _, _ => none
  | d + 1, t, k => match P.underlying t with
    | some (.int k') => if k' = k ∧ sizeT P t = some 1 then some 1 else none
    | some (.array n e) => match flatInt P d e k with
      | some m => if sizeT P e = some m ∧ sizeT P t = some (n * m) then some (n * m) else none
      | none => none
    | _ => none
theorem cells_int {k : IntKind} {l : List Int} {vs : Array Value} (h : vs.toList = l.map (.int k)) (i : Nat) (hi : i < l.length) : vs[i]? = some (.int k (l.getD i 0)) := by
  have := map_getD (k := k) hi
  rw [← h] at this
  simpa using this
theorem extract_ints {k : IntKind} {l : List Int} {vs : Array Value} (h : vs.toList = l.map (.int k)) (a m : Nat) : (vs.extract a (a + m)).toList = ((l.drop a).take m).map (.int k) := by
  simp [h, List.map_take, List.map_drop]
theorem eq_flat {P : Program} {k : IntKind} : ∀ {d : Nat} {t : TypeId} {m : Nat}, flatInt P d t k = some m → ∀ (D : Nat), d ≤ D → ∀ (x y : Value) (lx ly : List Int), lx.length = m → ly.length = m →
    (isAggT P t = some true → x.cells.toList = lx.map (.int k) ∧ x = .agg x.cells ∧ y.cells.toList = ly.map (.int k) ∧ y = .agg y.cells) →
    (isAggT P t = some false → x = .int k (lx.getD 0 0) ∧ y = .int k (ly.getD 0 0)) →
    ∀ w, (Op.equalIn D t x y).run P w = .ok (lx == ly) w
  | 0, _, _, h, _, _, _, _, _, _, _, _, _, _ => by simp [flatInt] at h
  | d + 1, t, m, h, D, hD, x, y, lx, ly, hlx, hly, hagg, hsc => by
    intro w
    obtain ⟨D, rfl⟩ : ∃ D', D = D' + 1 := ⟨D - 1, by omega⟩
    unfold flatInt at h
    split at h
    · rename_i k' hu
      split at h
      · rename_i hk
        obtain ⟨rfl, hs⟩ := hk
        cases h
        have ht : isAggT P t = some false := by simp [isAggT, hu]
        obtain ⟨e1, e2⟩ := hsc ht
        obtain ⟨a, rfl⟩ := List.length_eq_one_iff.1 hlx
        obtain ⟨b, rfl⟩ := List.length_eq_one_iff.1 hly
        rw [e1, e2, run_equalIn_int w D t _ _ _ _ hu]
        simp
      · cases h
    · rename_i n e hu
      split at h
      · rename_i m' hm'
        split at h
        · rename_i hs
          cases h
          have ht : isAggT P t = some true := by simp [isAggT, hu]
          obtain ⟨x1, x2, y1, y2⟩ := hagg ht
          have hse := hs.1
          obtain ⟨ei, hei⟩ : ∃ ei, P.info? e = some ei := by
            unfold sizeT at hse
            cases hq : P.info? e with
            | none => simp [hq] at hse
            | some ei => exact ⟨ei, rfl⟩
          have hc : P.cellsOf e = m' := by
            unfold sizeT at hse
            simp [Program.cellsOf, hei] at hse ⊢
            exact hse
          rw [x2, y2, run_equalIn_array w D x.cells y.cells hu hei, hc]
          have items : ∀ (is : List Nat), (∀ i ∈ is, i < n) → (Op.eqItems D e m' x.cells y.cells is).run P w = .ok (is.all fun i => (lx.drop (i * m')).take m' == (ly.drop (i * m')).take m') w := by
            intro is
            induction is with
            | nil => intro _; simp [Op.eqItems]
            | cons i is ih =>
              intro hi
              have hin := hi i (by simp)
              have hle := mul_lt (s := m') hin
              have hpart : ∀ (v : Value) (l : List Int), l.length = n * m' → v.cells.toList = l.map (.int k) → ∃ u, (part e v.cells (i * m')).run P w = .ok u w ∧
                  (isAggT P e = some true → u.cells.toList = ((l.drop (i * m')).take m').map (.int k) ∧ u = .agg u.cells) ∧ (isAggT P e = some false → u = .int k (((l.drop (i * m')).take m').getD 0 0)) := by
                intro v l hl hv
                cases hg : isAggT P e with
                | none =>
                  exfalso
                  cases d with
                  | zero => simp [flatInt] at hm'
                  | succ d =>
                    unfold flatInt at hm'
                    cases hu2 : P.underlying e with
                    | none => simp [hu2] at hm'
                    | some td => cases td <;> simp [isAggT, hu2] at hg hm'
                | some b =>
                  cases b with
                  | true =>
                    refine ⟨.agg (v.cells.extract (i * m') (i * m' + m')), by simp [part, run_isAgg hg, run_sizeT hse], fun _ => ⟨extract_ints hv _ _, rfl⟩, fun h => by cases h⟩
                  | false =>
                    have hm1 : m' = 1 := by
                      cases d with
                      | zero => simp [flatInt] at hm'
                      | succ d =>
                        unfold flatInt at hm'
                        cases hu2 : P.underlying e with
                        | none => simp [hu2] at hm'
                        | some td =>
                          cases td <;> simp [isAggT, hu2] at hg hm'
                          exact hm'.2.symm
                    subst hm1
                    have hlt : i * 1 < l.length := by omega
                    refine ⟨.int k (l.getD (i * 1) 0), by simp [part, run_isAgg hg, show v.cells[i]? = some (.int k (l.getD i 0)) by simpa using cells_int hv (i * 1) hlt], fun h => by (cases h), fun _ => ?_⟩
                    congr 1
                    rw [List.getD_eq_getElem?_getD, List.getD_eq_getElem?_getD, List.getElem?_take, if_pos (by omega), List.getElem?_drop, Nat.add_zero]
              obtain ⟨u1, p1, p2, p3⟩ := hpart x lx hlx x1
              obtain ⟨u2, q1, q2, q3⟩ := hpart y ly hly y1
              have heq := eq_flat hm' D (by omega) u1 u2 ((lx.drop (i * m')).take m') ((ly.drop (i * m')).take m') (by simp; omega) (by simp; omega)
                (fun h => ⟨(p2 h).1, (p2 h).2, (q2 h).1, (q2 h).2⟩) (fun h => ⟨p3 h, q3 h⟩) w
              simp only [Op.eqItems, Sem.run_bind, p1, q1, heq, Result.andThen_ok, List.all_cons]
              cases hb : (lx.drop (i * m')).take m' == (ly.drop (i * m')).take m'
              · simp
              · simpa using ih (fun j hj => hi j (by simp [hj]))
          rw [items _ (fun i hi => List.mem_range.1 hi)]
          congr 1
          rw [Bool.eq_iff_iff]
          simp only [List.all_eq_true, beq_iff_eq, List.mem_range]
          constructor
          · intro hall
            apply List.ext_getElem?
            intro j
            by_cases hj : j < n * m'
            · have hm0 : 0 < m' := by
                rcases Nat.eq_zero_or_pos m' with h0 | h0
                · rw [h0] at hj; simp at hj
                · exact h0
              have h1 := hall (j / m') (by rw [Nat.div_lt_iff_lt_mul hm0]; exact hj)
              have h2 := congrArg (fun l : List Int => l[j % m']?) h1
              simp only [List.getElem?_take, if_pos (Nat.mod_lt j hm0), List.getElem?_drop] at h2
              have hdm : j / m' * m' + j % m' = j := by rw [Nat.mul_comm]; exact Nat.div_add_mod j m'
              rw [hdm] at h2
              exact h2
            · rw [List.getElem?_eq_none (by omega), List.getElem?_eq_none (by omega)]
          · rintro rfl
            intro i _
            rfl
        · cases h
      · cases h
    · cases h
theorem mkS_beq {x y : List Int} (hx : ∀ z ∈ x, 0 ≤ z ∧ z ≤ 255) (hy : ∀ z ∈ y, 0 ≤ z ∧ z ≤ 255) : ((mkS x).toList == (mkS y).toList) = (x == y) := by
  by_cases e : x = y
  · subst e; simp
  · have h2 : mkS x ≠ mkS y := fun q => e (by rw [← bytesL_mkS hx, ← bytesL_mkS hy, q])
    have h3 : (mkS x).toList ≠ (mkS y).toList := fun q => h2 (by
      rw [ByteArray.toList_eq, ByteArray.toList_eq] at q
      have := Array.toList_inj.1 q
      cases hm : mkS x
      cases hn : mkS y
      simp_all)
    rw [beq_eq_false_iff_ne.2 e, beq_eq_false_iff_ne.2 h3]
def andL (e : Bool) (b : Bool) : List Field → Bool
  | [] => e
  | _ :: _ => e && b
def aeqF (P : Program) (xs ys : List AV) : List Field → Option Bool
  | [] => some true
  | f :: fs => if f.name = "_" then none else
    match isAggT P f.type with
    | some false => match P.underlying f.type, cellAt xs f.offset, cellAt ys f.offset with
      | some (.int _), some (.int k _ x), some (.int k' _ y) => if k' = k then (match aeqF P xs ys fs with | some b => some (andL (x == y) b fs) | none => none) else none
      | some .bool, some (.bool _ x), some (.bool _ y) => match aeqF P xs ys fs with | some b => some (andL (x == y) b fs) | none => none
      | some .string, some (.str x), some (.str y) => match aeqF P xs ys fs with | some b => some (andL (x == y) b fs) | none => none
      | _, _, _ => none
    | some true => match sizeT P f.type with
      | some s => match apart true s xs f.offset, apart true s ys f.offset with
        | some (.agg [.is k n x]), some (.agg [.is k' n' y]) => if k' = k ∧ n' = n ∧ flatInt P 10 f.type k = some n then (match aeqF P xs ys fs with | some b => some (andL (x == y) b fs) | none => none) else none
        | _, _ => none
      | none => none
    | none => none
def aeq (P : Program) (t : TypeId) (a b : AV) : Option Bool :=
  match a, b with
  | .bool _ x, .bool _ y => match P.underlying t with
    | some .bool => some (x == y)
    | _ => none
  | .str x, .str y => match P.underlying t with
    | some .string => some (x == y)
    | _ => none
  | .agg xs, .agg ys => if P.eqGuardType P.depth t = false then
      match P.underlying t with
      | some (.struct fs) => if P.stoodInHeld t = false then aeqF P xs ys fs.toList else none
      | some (.array _ _) => match xs, ys with
        | [.is k n l], [.is k' n' l'] => if k' = k ∧ n' = n ∧ flatInt P 10 t k = some n then some (l == l') else none
        | _, _ => none
      | _ => none
    else none
  | _, _ => none
theorem aeqF_sound {P : Program} {M : List Place} {xs ys : List AV} {vx vy : Array Value} (hx : RelC M xs vx.toList) (hy : RelC M ys vy.toList) (d : Nat) (hd : 10 ≤ d) (w : World) : ∀ {fs : List Field} {b : Bool}, aeqF P xs ys fs = some b → (Op.eqFields (d + 1) vx vy fs).run P w = .ok b w
  | [], b, h => by simp [aeqF] at h; subst h; simp [Op.eqFields]
  | f :: fs, b, h => by
    unfold aeqF at h
    split at h
    · cases h
    rename_i hname
    have fin : ∀ (u v : Value) (e : Bool), (part f.type vx f.offset).run P w = .ok u w → (part f.type vy f.offset).run P w = .ok v w → (Op.equalIn (d + 1) f.type u v).run P w = .ok e w →
        (match aeqF P xs ys fs with | some b => some (andL e b fs) | none => none) = some b → (Op.eqFields (d + 1) vx vy (f :: fs)).run P w = .ok b w := by
      intro u v e h1 h2 h3 h4
      cases hq : aeqF P xs ys fs with
      | none => rw [hq] at h4; cases h4
      | some b' =>
        rw [hq] at h4
        have ih := aeqF_sound hx hy d hd w hq
        simp only [Op.eqFields, if_pos hname, Sem.run_bind, h1, h2, h3, Result.andThen_ok]
        cases fs with
        | nil =>
          simp only [Option.some.injEq, andL] at h4
          subst h4
          simp [Op.eqFields] at ih ⊢
          cases e <;> simp
        | cons g gs =>
          simp only [Option.some.injEq, andL] at h4
          subst h4
          cases e
          · simp
          · simpa using ih
    split at h
    · rename_i hg
      have hpart : ∀ (cs : List AV) (vs : Array Value) (x : AV), RelC M cs vs.toList → cellAt cs f.offset = some x → ∃ u, (part f.type vs f.offset).run P w = .ok u w ∧ RelV M x u := by
        intro cs vs x hc hxx
        obtain ⟨u, hu, hr⟩ := cellAt_rel hc hxx
        exact ⟨u, by simp [part, run_isAgg hg, show vs[f.offset]? = some u by simpa using hu], hr⟩
      split at h
      · rename_i k0 k l x k' l' y hu h1 h2
        split at h
        · rename_i hk
          subst hk
          obtain ⟨u, p1, p2⟩ := hpart xs vx _ hx h1
          obtain ⟨v, q1, q2⟩ := hpart ys vy _ hy h2
          obtain ⟨e1, _, _⟩ := relV_int p2
          obtain ⟨e2, _, _⟩ := relV_int q2
          exact fin u v (x == y) p1 q1 (by rw [e1, e2]; exact run_equalIn_int w d f.type _ _ _ _ hu) h
        · cases h
      · rename_i l x l' y hu h1 h2
        obtain ⟨u, p1, p2⟩ := hpart xs vx _ hx h1
        obtain ⟨v, q1, q2⟩ := hpart ys vy _ hy h2
        obtain ⟨e1, _⟩ := relV_bool p2
        obtain ⟨e2, _⟩ := relV_bool q2
        exact fin u v (x == y) p1 q1 (by rw [e1, e2]; exact run_equalIn_bool w d f.type _ _ hu) h
      · rename_i x y hu h1 h2
        obtain ⟨u, p1, p2⟩ := hpart xs vx _ hx h1
        obtain ⟨v, q1, q2⟩ := hpart ys vy _ hy h2
        simp only [RelV, RelX] at p2 q2
        have e1 : u = .string (mkS x) := by simpa using p2.1
        have e2 : v = .string (mkS y) := by simpa using q2.1
        exact fin u v (x == y) p1 q1 (by rw [e1, e2, run_equalIn_string w d f.type _ _ hu, mkS_beq p2.2.1 q2.2.1]) h
      · cases h
    · rename_i hg
      split at h
      · rename_i s hs
        split at h
        · rename_i k n x k' n' y h1 h2
          split at h
          · rename_i hk
            obtain ⟨rfl, rfl, hfl⟩ := hk
            obtain ⟨u, p1, p2⟩ := apart_sound hx hs hg h1
            obtain ⟨v, q1, q2⟩ := apart_sound hy hs hg h2
            obtain ⟨cu, eu, ru⟩ := RelX_agg.1 p1
            obtain ⟨cv, ev, rv⟩ := RelX_agg.1 q1
            have eu : u = .agg cu := by simpa using eu
            have ev : v = .agg cv := by simpa using ev
            subst eu ev
            obtain ⟨f1, f2, _⟩ := RelX_is.1 (RelC_single.1 ru)
            obtain ⟨g1, g2, _⟩ := RelX_is.1 (RelC_single.1 rv)
            refine fin _ _ (x == y) (p2 w) (q2 w) (eq_flat hfl (d + 1) (by omega) (.agg cu) (.agg cv) x y f1 g1 (fun _ => ⟨f2, rfl, g2, rfl⟩) (fun h => ?_) w) h
            rw [hg] at h
            cases h
          · cases h
        · cases h
      · cases h
    · cases h
theorem aeq_sound {P : Program} {M : List Place} {ρ : Operand → Value} {t : TypeId} {x y : Operand} {a c : AV} (hx : RelV M a (ρ x)) (hy : RelV M c (ρ y)) {b : Bool} (h : aeq P t a c = some b) (op : BinOp) (hop : op = .eql ∨ op = .neq)
    {o : Oper} {t' : TypeId} (ho : o.op = .binOp op t x y t') : ∀ w, (execOp ρ o).run P w = .ok (.value (.bool (if op = .eql then b else !b))) w := by
  intro w
  unfold aeq at h
  split at h
  · rename_i l1 x1 l2 y1
    obtain ⟨e1, _⟩ := relV_bool hx
    obtain ⟨e2, _⟩ := relV_bool hy
    split at h
    · rename_i hu
      cases h
      have := run_equal_bool (P := P) w t x1 y1 hu
      rcases hop with rfl | rfl <;> simp [execOp, ho, e1, e2, eqGuard, binOp, this]
    · cases h
  · rename_i x1 y1
    simp only [RelV, RelX] at hx hy
    have e1 : ρ x = .string (mkS x1) := by simpa using hx.1
    have e2 : ρ y = .string (mkS y1) := by simpa using hy.1
    split at h
    · rename_i hu
      cases h
      have hq : ((mkS x1).toList == (mkS y1).toList) = (x1 == y1) := by
        by_cases e : x1 = y1
        · subst e; simp
        · have h2 : mkS x1 ≠ mkS y1 := fun q => e (by rw [← bytesL_mkS hx.2.1, ← bytesL_mkS hy.2.1, q])
          have h3 : (mkS x1).toList ≠ (mkS y1).toList := fun q => h2 (by
            rw [ByteArray.toList_eq, ByteArray.toList_eq] at q
            have := Array.toList_inj.1 q
            cases hm : mkS x1
            cases hn : mkS y1
            simp_all)
          rw [beq_eq_false_iff_ne.2 e, beq_eq_false_iff_ne.2 h3]
      rcases hop with rfl | rfl
      · have h1 : binOp .eql t (.string (mkS x1)) (.string (mkS y1)) = pure (.bool ((mkS x1).toList == (mkS y1).toList)) := rfl
        rw [hq] at h1
        simp [execOp, ho, e1, e2, eqGuard, h1]
      · have h1 : binOp .neq t (.string (mkS x1)) (.string (mkS y1)) = pure (.bool !((mkS x1).toList == (mkS y1).toList)) := rfl
        rw [hq] at h1
        simp [execOp, ho, e1, e2, eqGuard, h1]
    · cases h
  · rename_i xs ys
    obtain ⟨vx, e1, c1⟩ := RelX_agg.1 hx
    obtain ⟨vy, e2, c2⟩ := RelX_agg.1 hy
    have e1 : ρ x = .agg vx := by simpa using e1
    have e2 : ρ y = .agg vy := by simpa using e2
    split at h
    · rename_i hguard
      have main : (Op.equal t (.agg vx) (.agg vy)).run P w = .ok b w := by
        split at h
        · rename_i fs hu
          split at h
          · rename_i hst
            have hf : P.fieldsOf t = fs := by simp [Program.fieldsOf, hu]
            have := run_equalIn_struct (P := P) w 9999 t vx vy (by rw [hf]; exact hu) hst
            unfold Op.equal Op.maxDepth
            rw [this, hf]
            exact aeqF_sound c1 c2 9998 (by omega) w h
          · cases h
        · rename_i n e hu
          split at h
          · rename_i k n' l k' n'' l'
            split at h
            · rename_i hk
              obtain ⟨rfl, rfl, hfl⟩ := hk
              cases h
              obtain ⟨f1, f2, _⟩ := RelX_is.1 (RelC_single.1 c1)
              obtain ⟨g1, g2, _⟩ := RelX_is.1 (RelC_single.1 c2)
              refine eq_flat hfl 10000 (by omega) (.agg vx) (.agg vy) l l' f1 g1 (fun _ => ⟨f2, rfl, g2, rfl⟩) (fun h => ?_) w
              simp [isAggT, hu] at h
            · cases h
          · cases h
        · cases h
      rcases hop with rfl | rfl <;> simp [execOp, ho, e1, e2, eqGuard, binOp, main, hguard]
    · cases h
  · cases h
end Go.AE
set_option linter.unusedVariables false
set_option linter.unusedSimpArgs false
namespace Go.AE
open Go Go.RowKit
def bnd (d : Nat) : Option AV → Option (Bool × Nat)
  | none => some (true, d)
  | some (.int _ (some m) _) => some (decide (0 ≤ m), m.toNat)
  | some (.int _ none i) => some (decide (0 ≤ i), i.toNat)
  | _ => none
def psub (h l : Nat) : Nat := match l with | 0 => h | l + 1 => h - (l + 1)
theorem psub_eq (h l : Nat) : psub h l = h - l := by cases l <;> simp [psub]
def leO (o : Option AV) (l h : Nat) : Bool := match o with | none => true | some _ => decide (l ≤ h)
theorem run_bnd {P : Program} {M : List Place} {ρ : Operand → Value} {g : Operand → AV} (hg : ∀ x, RelV M (g x) (ρ x)) {d : Nat} {o : Option Operand} {r : Bool} {l : Nat} (h : bnd d (o.map g) = some (r, l)) (hr : r = true) (code : BoundsCode) {y : Nat}
    (hy : ∀ x, o = some x → l ≤ y) (w : World) : (match (o.map ρ : Option Value) with | some v => Instr.sliceBound v y code | none => pure d).run P w = .ok l w := by
  subst hr
  cases o with
  | none => simp only [Option.map_none, bnd, Option.some.injEq, Prod.mk.injEq] at h; simp [h.2]
  | some x =>
    have hx := hg x
    have hly := hy x rfl
    simp only [Option.map_some] at h ⊢
    cases hgx : g x <;> rw [hgx] at h hx <;> try (simp only [bnd, reduceCtorEq] at h; done)
    rename_i k lit i
    obtain ⟨e, hk, hl⟩ := relV_int hx
    cases lit with
    | none =>
      simp only [bnd, Option.some.injEq, Prod.mk.injEq, decide_eq_true_eq] at h
      obtain ⟨h0, rfl⟩ := h
      simp [e, Instr.sliceBound, asIntOf, h0, show i ≤ (y : Int) by omega]
    | some m =>
      have := hl m rfl
      subst this
      simp only [bnd, Option.some.injEq, Prod.mk.injEq, decide_eq_true_eq] at h
      obtain ⟨h0, rfl⟩ := h
      simp [e, Instr.sliceBound, asIntOf, h0, show i ≤ (y : Int) by omega]
theorem leO_spec {g : Operand → AV} {o : Option Operand} {l h : Nat} (hh : leO (o.map g) l h = true) : ∀ x, o = some x → l ≤ h := by
  intro x hx
  subst hx
  simpa [leO] using hh
theorem bnd_none {g : Operand → AV} {d : Nat} {o : Option Operand} {r : Bool} {l : Nat} (h : bnd d (o.map g) = some (r, l)) : o = none → l = d := by
  intro ho
  subst ho
  simp only [Option.map_none, bnd, Option.some.injEq, Prod.mk.injEq] at h
  exact h.2.symm
theorem has_le {a b : Nat} (h : IntKind.i64.has (b : Int)) (hab : a ≤ b) : IntKind.i64.has (a : Int) := by
  rw [has_iff] at *
  simp only [loB, hiB] at *
  omega
def cutL {α : Type} (lo hi : Option AV) (a b : Nat) (l : List α) : List α := match lo, hi with
  | none, none => l
  | some _, none => l.drop a
  | none, some _ => l.take b
  | some _, some _ => (l.drop a).take (psub b a)
theorem cutL_eq {α : Type} {lo hi : Option AV} {a b : Nat} {l : List α} (h1 : lo = none → a = 0) (h2 : hi = none → b = l.length) : cutL lo hi a b l = (l.drop a).take (b - a) := by
  cases lo <;> cases hi <;> simp only [cutL, psub_eq]
  · rw [h1 rfl, h2 rfl]; simp
  · rw [h1 rfl]; simp
  · rw [h2 rfl, List.take_of_length_le]; simp
def bndF (lo hi : Option AV) (len : Nat) : Option (Bool × Nat × Nat) := match bnd 0 lo, bnd len hi with
  | some (r1, a), some (r2, b) => some (r1 && (r2 && (leO lo a b && leO hi b len)), a, b)
  | _, _ => none
def isStrT (P : Program) (t : TypeId) : Bool := match P.underlying t with
  | some .string => true
  | _ => false
theorem isStrT_spec {P : Program} {t : TypeId} (h : isStrT P t = true) : P.underlying t = some .string := by
  unfold isStrT at h
  split at h
  · assumption
  · cases h
def aslice2 (P : Program) (t : TypeId) (x : AV) (lo hi mx : Option AV) : Option (Bool × AV) :=
  match mx, x with
  | none, .str l => if isStrT P t = true then (bndF lo hi l.length).map fun r => (r.1, .str (cutL lo hi r.2.1 r.2.2 l)) else none
  | none, .dsl d => if elemOfSl P t = some d.e.w then (bndF lo hi d.l.length).map fun r => (r.1, .dsl ⟨d.e, cutL lo hi r.2.1 r.2.2 d.l⟩) else none
  | none, .fsl k 1 l => if elemOfSl P t = some 1 then (bndF lo hi l.length).map fun r => (r.1, .fsl k 1 (cutL lo hi r.2.1 r.2.2 l)) else none
  | _, _ => none
theorem bndF_spec {P : Program} {M : List Place} {ρ : Operand → Value} {g : Operand → AV} (hg : ∀ x, RelV M (g x) (ρ x)) {lo hi : Option Operand} {len : Nat} {a b : Nat} (h : bndF (lo.map g) (hi.map g) len = some (true, a, b)) :
    a ≤ b ∧ b ≤ len ∧ (lo.map g = none → a = 0) ∧ (hi.map g = none → b = len) ∧ ∀ (cap : Nat) (w : World), len ≤ cap → ∀ f, (Instr.sliceBounds f len cap (lo.map ρ) (hi.map ρ) none).run P w = .ok (a, b, cap) w := by
  unfold bndF at h
  split at h
  · rename_i r1 a' r2 b' h1 h2
    simp only [Option.some.injEq, Prod.mk.injEq, Bool.and_eq_true] at h
    obtain ⟨⟨e1, e2, e3, e4⟩, rfl, rfl⟩ := h
    have hlo := leO_spec e3
    have hhi := leO_spec e4
    have hlh : a' ≤ b' := by
      cases lo with
      | none => have := bnd_none h1 rfl; omega
      | some z => exact hlo z rfl
    have hhl : b' ≤ len := by
      cases hi with
      | none => have := bnd_none h2 rfl; omega
      | some z => exact hhi z rfl
    refine ⟨hlh, hhl, fun q => bnd_none h1 (by cases lo <;> simp at q ⊢), fun q => bnd_none h2 (by cases hi <;> simp at q ⊢), fun cap w hcap f => ?_⟩
    have hb1 := fun code => run_bnd (P := P) hg h1 e1 code (y := b') (fun z hz => hlo z hz) w
    have hb2 := fun code => run_bnd (P := P) hg h2 e2 code (y := cap) (fun z hz => by have := hhi z hz; omega) w
    have hb2' := fun code => run_bnd (P := P) hg h2 e2 code (y := len) (fun z hz => hhi z hz) w
    cases lo <;> cases hi <;> cases f <;> simp only [Option.map_none, Option.map_some, Sem.run_pure, Result.ok.injEq, and_true] at hb1 hb2 hb2' <;> simp [Instr.sliceBounds, hb1, hb2, hb2'] <;> (first | exact ⟨hb1 .sliceB, hb2 .sliceB⟩ | exact hb1 .sliceB | exact hb2 .sliceB | (obtain rfl := hb2 .sliceB; simp [hb1]))
  · cases h
theorem mkS_extract (l : List Int) {a b : Nat} (h1 : a ≤ b) (h2 : b ≤ l.length) : (mkS l).extract a b = mkS ((l.drop a).take (b - a)) := by
  apply ByteArray.ext
  apply Array.ext'
  simp only [ByteArray.data_extract, mkS, Array.toList_extract, List.extract_eq_take_drop, List.map_take, List.map_drop]
theorem aslice2_sound {P : Program} {M : List Place} {ρ : Operand → Value} {g : Operand → AV} (hg : ∀ x, RelV M (g x) (ρ x)) {o : Oper} {t : TypeId} {x : Operand} {lo hi mx : Option Operand} (ho : o.op = .slice t x lo hi mx)
    {req : Bool} {r : AV} (h : aslice2 P t (g x) (lo.map g) (hi.map g) (mx.map g) = some (req, r)) (hreq : req = true) : ∃ v, RelV M r v ∧ ∀ w, (execOp ρ o).run P w = .ok (.value v) w := by
  subst hreq
  have hx := hg x
  unfold aslice2 at h
  split at h
  · rename_i l hmx hgx
    have hmx : mx = none := by cases mx <;> simp at hmx ⊢
    subst hmx
    split at h
    · rename_i hu
      have hu := isStrT_spec hu
      simp only [Option.map_eq_some_iff, Prod.mk.injEq] at h
      obtain ⟨⟨rq, a, b⟩, hb, rfl, rfl⟩ := h
      obtain ⟨b1, b2, b3, b4, b5⟩ := bndF_spec (P := P) hg hb
      rw [hgx] at hx
      simp only [RelV, RelX] at hx
      obtain ⟨hv, h8, hl⟩ := hx
      have hv : ρ x = .string (mkS l) := by simpa using hv
      refine ⟨.string (mkS ((l.drop a).take (b - a))), ?_, fun w => ?_⟩
      · rw [cutL_eq b3 b4]
        simp only [RelV, RelX, true_and]
        exact ⟨fun z hz => h8 z (List.mem_of_mem_drop (List.mem_of_mem_take hz)), has_le hl (by simp; omega)⟩
      · have hbs := b5 l.length w (Nat.le_refl _) false
        have hsz : (mkS l).size = l.length := mkS_size l
        simp [execOp, ho, hv, Instr.sliceAt, run_underlying hu, Instr.slice, hsz, hbs, mkS_extract l b1 b2]
    · cases h
  · rename_i d hmx hgx
    have hmx : mx = none := by cases mx <;> simp at hmx ⊢
    subst hmx
    split at h
    · rename_i he
      obtain ⟨e, hu, hs⟩ := elemOfSl_spec he
      simp only [Option.map_eq_some_iff, Prod.mk.injEq] at h
      obtain ⟨⟨rq, a, b⟩, hb, rfl, rfl⟩ := h
      obtain ⟨b1, b2, b3, b4, b5⟩ := bndF_spec (P := P) hg hb
      rw [hgx] at hx
      simp only [RelV, RelX] at hx
      obtain ⟨v', hv, A, len, cap, rfl, hcap, hlen, hi, hz⟩ := hx
      have hv : ρ x = .slice A len cap := by simpa using hv
      refine ⟨.slice (if cap = a then A else A.map (·.add (a * d.e.w))) (b - a) (cap - a), ?_, fun w => ?_⟩
      · rw [cutL_eq b3 b4]
        simp only [RelV, RelX]
        refine ⟨_, rfl, _, b - a, cap - a, rfl, by omega, by simp; omega, has_le hi (by omega), ?_⟩
        rcases Nat.eq_zero_or_pos (b - a) with h0 | h0
        · exact .inl h0
        rcases hz with hz | ⟨blk, off, cs, el, fz, rfl, hz, hle, hcs⟩
        · omega
        have hm : a * d.e.w + (b - a) * d.e.w ≤ len * d.e.w := by
          rw [← Nat.add_mul]
          exact Nat.mul_le_mul_right _ (by omega)
        refine .inr ⟨blk, off + a * d.e.w, cs, el, fz, ?_, hz, by omega, fun i y hy => ?_⟩
        · rw [if_neg (by omega)]
          simp [addr_add]
        · have hi' : i < b - a := by
            have := (List.getElem?_eq_some_iff.1 hy).1
            simp at this
            omega
          rw [List.getElem?_take, if_pos hi', List.getElem?_drop] at hy
          have := hcs (a + i) y hy
          rw [Nat.add_mul] at this
          rw [Nat.add_assoc]
          exact this
      · have hbs := b5 cap w (by omega) true
        rw [hlen] at hbs
        simp [execOp, ho, hv, Instr.sliceAt, run_underlying hu, Instr.slice, hbs, run_sizeT hs]
    · cases h
  · rename_i k l hmx hgx
    have hmx : mx = none := by cases mx <;> simp at hmx ⊢
    subst hmx
    split at h
    · rename_i he
      obtain ⟨e, hu, hs⟩ := elemOfSl_spec he
      simp only [Option.map_eq_some_iff, Prod.mk.injEq] at h
      obtain ⟨⟨rq, a, b⟩, hb, rfl, rfl⟩ := h
      obtain ⟨b1, b2, b3, b4, b5⟩ := bndF_spec (P := P) hg hb
      rw [hgx] at hx
      simp only [RelV, RelX] at hx
      obtain ⟨v', hv, A, len, cap, rfl, hcap, hlen, hi, hks, hz⟩ := hx
      have hv : ρ x = .slice A len cap := by simpa using hv
      rw [Nat.mul_one] at hlen
      refine ⟨.slice (if cap = a then A else A.map (·.add (a * 1))) (b - a) (cap - a), ?_, fun w => ?_⟩
      · rw [cutL_eq b3 b4]
        simp only [RelV, RelX]
        refine ⟨_, rfl, _, b - a, cap - a, rfl, by omega, by simp; omega, has_le hi (by omega), fun x hx => hks x (List.mem_of_mem_drop (List.mem_of_mem_take hx)), ?_⟩
        rcases Nat.eq_zero_or_pos (cap - a) with h0 | h0
        · exact .inl h0
        rcases hz with hz | ⟨blk, off, cs, el, fz, rfl, hz, hle, hcs⟩
        · omega
        refine .inr ⟨blk, off + a, cs, el, fz, ?_, hz, by omega, ?_⟩
        · rw [if_neg (by omega)]
          simp [addr_add]
        · rw [Nat.mul_one, List.map_take, List.map_drop, ← hcs, Nat.mul_one, List.drop_take, List.drop_drop, List.take_take, Nat.min_eq_left (by omega)]
      · have hbs := b5 cap w (by omega) true
        rw [hlen] at hbs
        simp [execOp, ho, hv, Instr.sliceAt, run_underlying hu, Instr.slice, hbs, run_sizeT hs]
    · cases h
  · cases h
def aslice (P : Program) (t : TypeId) (x : AV) (lo hi mx : Option AV) : Option (Bool × AV) :=
  match x with
  | .sl b off len sz c =>
    if elemOfSl P t = some sz then
      match bnd 0 lo, bnd len hi with
      | some (r1, l), some (r2, h) =>
        match mx with
        | none => some (r1 && (r2 && (leO lo l h && leO hi h len)), .sl b (padd off (mul1 l sz)) (psub h l) sz
            (match lo, hi with | none, none => c | some _, none => if c = .full then .full else .any | _, _ => .any))
        | some m => match bnd 0 (some m) with
          | some (r3, mm) => if hi.isSome then some (r1 && (r2 && (r3 && (leO lo l h && (decide (h ≤ len) && decide (mm = h))))), .sl b (padd off (mul1 l sz)) (psub h l) sz .full) else none
          | none => none
      | _, _ => none
    else none
  | .ptr b base none room _ =>
    match lo, hi, mx with
    | none, none, none => match elemOfArr P t with
      | some (n, s, _) => if n * s ≤ room ∧ n ≤ 4294967296 then some (true, .sl b base n s .full) else none
      | none => none
    | lo, hi, none => match elemOfArr P t with
      | some (n, s, _) => if n * s ≤ room ∧ n ≤ 4294967296 then
          match bnd 0 lo, bnd n hi with
          | some (r1, l), some (r2, h) => some (r1 && (r2 && (leO lo l h && leO hi h n)), .sl b (padd base (mul1 l s)) (psub h l) s (match hi with | none => .full | some _ => .any))
          | _, _ => none
        else none
      | none => none
    | _, _, _ => none
  | x => aslice2 P t x lo hi mx
theorem aslice_sound {P : Program} {M : List Place} {ρ : Operand → Value} {g : Operand → AV} (hg : ∀ x, RelV M (g x) (ρ x)) {o : Oper} {t : TypeId} {x : Operand} {lo hi mx : Option Operand} (ho : o.op = .slice t x lo hi mx)
    {req : Bool} {r : AV} (h : aslice P t (g x) (lo.map g) (hi.map g) (mx.map g) = some (req, r)) (hreq : req = true) : ∃ v, RelV M r v ∧ ∀ w, (execOp ρ o).run P w = .ok (.value v) w := by
  subst hreq
  have hx := hg x
  unfold aslice at h
  split at h
  · rename_i b off len sz c hgx
    rw [hgx] at hx
    simp only [RelV, RelX] at hx
    obtain ⟨pl, A, cap, hpl, hv, hb, hcap, hnil, hnn, hfull, hown, hwhole, hlen⟩ := hx
    have hv : ρ x = .slice A len cap := by simpa using hv
    split at h
    · rename_i he
      obtain ⟨e, hu, hs⟩ := elemOfSl_spec he
      split at h
      · rename_i r1 l r2 hh h1 h2
        have fin : ∀ (m : Nat) (c' : CapK), r1 = true → r2 = true → l ≤ hh → hh ≤ len → hh ≤ m → m ≤ cap →
            (∀ w, (match (mx.map ρ : Option Value) with | some v => Instr.sliceBound v cap .slice3Acap | none => pure cap).run P w = .ok m w) →
            (∀ w, (match hi.map ρ, mx.map ρ with | some v, some _ => Instr.sliceBound v m .slice3B | some v, none => Instr.sliceBound v m .sliceAcap | none, none => pure len | none, some _ => stuck "Slice: max without high").run P w = .ok hh w) →
            (∀ w code, (match (lo.map ρ : Option Value) with | some v => Instr.sliceBound v hh code | none => pure 0).run P w = .ok l w) →
            (c' = .full → m = hh) → (c' = .own → c = .own ∧ l = 0 ∧ hh = len ∧ m = cap) → (c' = .whole → c = .whole ∧ l = 0 ∧ hh = len) →
            ∃ v, RelV M (.sl b (padd off (mul1 l sz)) (psub hh l) sz c') v ∧ ∀ w, (execOp ρ o).run P w = .ok (.value v) w := by
          intro m c' e1 e2 hlh hhl hhm hmc run3 run2 run1 cf co cw
          refine ⟨.slice (if m = l then A else A.map (·.add (l * sz))) (hh - l) (m - l), ?_, fun w => ?_⟩
          · simp only [RelV, RelX, padd_eq, mul1_eq, psub_eq]
            have hmul : l * sz + (hh - l) * sz ≤ len * sz := by
              rw [← Nat.add_mul]
              exact Nat.mul_le_mul_right sz (by omega)
            refine ⟨pl, _, m - l, hpl, rfl, by omega, by omega, fun hn => ?_, fun hn => ?_, fun hc => ?_, fun hc => ?_, fun hc => ?_, has_le hlen (by omega)⟩
            · obtain ⟨a1, a2⟩ := hnil hn
              refine ⟨fun hc => by rw [a1 (co hc).1]; simp, by omega⟩
            · obtain ⟨a1, a2⟩ := hnn hn
              refine ⟨?_, fun hc => ?_⟩
              · split
                · exact a1
                · cases A with
                  | none => exact absurd rfl a1
                  | some A => simp
              · rcases hc with hc | hc
                · have hA := a2 (.inl (by omega))
                  rw [if_neg (by omega), hA]
                  simp [addr_add, Nat.add_assoc]
                · obtain ⟨d1, d2, d3, d4⟩ := co hc
                  have hA := a2 (.inr d1)
                  subst d2
                  split
                  · rw [hA]; simp
                  · rw [hA]; simp [Addr.add]
            · have := cf hc; omega
            · obtain ⟨d1, d2, d3, d4⟩ := co hc
              obtain ⟨f1, f2, f3, f4⟩ := hown d1
              subst d2; subst d3; subst d4
              simp only [Nat.zero_mul, Nat.sub_zero]
              exact ⟨by omega, f2, f3, f4⟩
            · obtain ⟨d1, d2, d3⟩ := cw hc
              obtain ⟨f1, f2⟩ := hwhole d1
              subst d2; subst d3
              simp only [Nat.zero_mul, Nat.sub_zero]
              exact ⟨by omega, f2⟩
          · have hb3 := run3 w
            have hb2 := run2 w
            have hb1 := run1 w
            have hbs : (Instr.sliceBounds true len cap (lo.map ρ) (hi.map ρ) (mx.map ρ)).run P w = .ok (l, hh, m) w := by
              cases lo <;> cases hi <;> cases mx <;> simp only [Option.map_none, Option.map_some, Sem.run_pure, Result.ok.injEq, and_true] at hb1 hb2 hb3 <;>
                simp [Instr.sliceBounds, hb1, hb2, hb3] <;> (first | exact ⟨hb1 .sliceB, hb2, hb3⟩ | exact ⟨hb2, hb3⟩ | exact ⟨hb1 .sliceB, hb3⟩ | exact hb3 | exact hb1 .sliceB | (exfalso; simp [stuck] at hb2))
            simp [execOp, ho, hv, Instr.sliceAt, run_underlying hu, Instr.slice, hbs, run_sizeT hs]
        split at h
        · rename_i hmx
          have hmx : mx = none := by cases mx <;> simp at hmx ⊢
          subst hmx
          simp only [Option.some.injEq, Prod.mk.injEq, Bool.and_eq_true] at h
          obtain ⟨⟨e1, e2, e3, e4⟩, hr⟩ := h
          have hlo := leO_spec e3
          have hhi := leO_spec e4
          have hlh : l ≤ hh := by
            cases lo with
            | none => have := bnd_none h1 rfl; omega
            | some z => exact hlo z rfl
          have hhl : hh ≤ len := by
            cases hi with
            | none => have := bnd_none h2 rfl; omega
            | some z => exact hhi z rfl
          rw [← hr]
          refine fin cap _ e1 e2 hlh hhl (by omega) (Nat.le_refl _) (fun w => by simp) (fun w => ?_) (fun w code => run_bnd hg h1 e1 code (fun z hz => hlo z hz) w) (fun hc => ?_) (fun hc => ?_) (fun hc => ?_)
          · have := run_bnd (P := P) hg h2 e2 .sliceAcap (y := cap) (fun z hz => by have := hhi z hz; omega) w
            cases hi with
            | none => simpa using this
            | some z => simpa using this
          · cases lo <;> cases hi <;> simp at hc
            · have := bnd_none h2 rfl; have := hfull hc; omega
            · have := bnd_none h2 rfl; have := hfull hc; omega
          · cases lo <;> cases hi <;> simp at hc
            · exact ⟨hc, bnd_none h1 rfl, bnd_none h2 rfl, rfl⟩
            · split at hc <;> cases hc
          · cases lo <;> cases hi <;> simp at hc
            · exact ⟨hc, bnd_none h1 rfl, bnd_none h2 rfl⟩
            · split at hc <;> cases hc
        · rename_i mv hmx
          obtain ⟨mo, rfl⟩ : ∃ mo, mx = some mo := by cases mx <;> simp at hmx ⊢
          simp only [Option.map_some, Option.some.injEq] at hmx
          split at h
          · rename_i r3 mm h3
            split at h
            · rename_i hsome
              obtain ⟨ho', rfl⟩ : ∃ ho', hi = some ho' := by cases hi <;> simp at hsome ⊢
              simp only [Option.some.injEq, Prod.mk.injEq, Bool.and_eq_true, decide_eq_true_eq] at h
              obtain ⟨⟨e1, e2, hr3, e3, e4, e5⟩, hr⟩ := h
              subst e5
              have hlo := leO_spec e3
              have hlh : l ≤ mm := by
                cases lo with
                | none => have := bnd_none h1 rfl; omega
                | some z => exact hlo z rfl
              rw [← hr]
              rw [← hmx] at h3
              have h3' : bnd 0 ((some mo).map g) = some (r3, mm) := h3
              refine fin mm .full e1 e2 hlh e4 (Nat.le_refl _) (by omega) (fun w => ?_) (fun w => ?_) (fun w code => run_bnd hg h1 e1 code (fun z hz => hlo z hz) w) (fun _ => rfl) (fun hc => by cases hc) (fun hc => by cases hc)
              · have := run_bnd (P := P) hg h3' hr3 .slice3Acap (y := cap) (fun z hz => by omega) w
                simpa using this
              · have := run_bnd (P := P) hg h2 e2 .slice3B (y := mm) (fun z hz => by omega) w
                simpa using this
            · cases h
          · cases h
      · cases h
    · cases h
  · rename_i b base room span hgx
    rw [hgx] at hx
    simp only [RelV, RelX] at hx
    obtain ⟨pl, hpl, hnil, hv, hd1, hd2⟩ := hx
    simp only [Option.getD_none, Nat.add_zero, Nat.zero_add] at hv hd1
    have hv : ρ x = .pointer (some ⟨pl.blk, pl.off + base, none⟩) := by simpa using hv
    split at h
    · rename_i h1 h2 h3
      have h1 : lo = none := by cases lo <;> simp at h1 ⊢
      have h2 : hi = none := by cases hi <;> simp at h2 ⊢
      have h3 : mx = none := by cases mx <;> simp at h3 ⊢
      subst h1; subst h2; subst h3
      split at h
      · rename_i n s gg he
        obtain ⟨e, hu, hs, _, _⟩ := elemOfArr_spec he
        split at h
        · rename_i hr
          cases h
          refine ⟨.slice (some ⟨pl.blk, pl.off + base, none⟩) n n, ?_, fun w => ?_⟩
          · simp only [RelV, RelX]
            refine ⟨pl, _, n, hpl, rfl, by omega, Nat.le_refl _, fun hn => (by rw [hnil] at hn; cases hn), fun _ => ⟨by simp, fun _ => rfl⟩, fun _ => rfl, fun hc => (by cases hc), fun hc => (by cases hc), ?_⟩
            rw [has_iff]
            simp only [loB, hiB]
            omega
          · simp [execOp, ho, hv, Instr.sliceAt, run_underlying hu, Instr.sureAddr, Instr.sliceBounds, run_sizeT hs, Addr.add]
        · cases h
      · cases h
    · rename_i hmx _
      have h3 : mx = none := by cases mx <;> simp at hmx ⊢
      subst h3
      split at h
      · rename_i n s gg he
        obtain ⟨e, hu, hs, _, _⟩ := elemOfArr_spec he
        split at h
        · rename_i hr
          split at h
          · rename_i r1 l r2 hh h1 h2
            simp only [Option.some.injEq, Prod.mk.injEq, Bool.and_eq_true] at h
            obtain ⟨⟨e1, e2, e3, e4⟩, hr'⟩ := h
            have hlo := leO_spec e3
            have hhi := leO_spec e4
            have hlh : l ≤ hh := by
              cases lo with
              | none => have := bnd_none h1 rfl; omega
              | some z => exact hlo z rfl
            have hhn : hh ≤ n := by
              cases hi with
              | none => have := bnd_none h2 rfl; omega
              | some z => exact hhi z rfl
            rw [← hr']
            have hmul : l * s + (hh - l) * s ≤ n * s := by
              rw [← Nat.add_mul]
              exact Nat.mul_le_mul_right s (by omega)
            refine ⟨.slice (some (if n = l then ⟨pl.blk, pl.off + base, none⟩ else (⟨pl.blk, pl.off + base, none⟩ : Addr).add (l * s))) (hh - l) (n - l), ?_, fun w => ?_⟩
            · simp only [RelV, RelX, padd_eq, mul1_eq, psub_eq]
              refine ⟨pl, _, n - l, hpl, rfl, by omega, by omega, fun hn => (by rw [hnil] at hn; cases hn), fun _ => ⟨by simp, fun hc => ?_⟩, fun hc => ?_, fun hc => ?_, fun hc => ?_, ?_⟩
              · rcases hc with hc | hc
                · rw [if_neg (by omega)]
                  simp [Addr.add, Nat.add_assoc]
                · cases hi <;> simp at hc
              · cases hi with
                | none => have := bnd_none h2 rfl; omega
                | some z => simp at hc
              · cases hi <;> simp at hc
              · cases hi <;> simp at hc
              · rw [has_iff]
                simp only [loB, hiB]
                omega
            · have hb2 := run_bnd (P := P) hg h2 e2 .sliceAlen (y := n) (fun z hz => hhi z hz) w
              have hb1 := fun code => run_bnd (P := P) hg h1 e1 code (y := hh) (fun z hz => hlo z hz) w
              have hbs : (Instr.sliceBounds false n n (lo.map ρ) (hi.map ρ) none).run P w = .ok (l, hh, n) w := by
                cases lo <;> cases hi <;> simp only [Option.map_none, Option.map_some, Sem.run_pure, Result.ok.injEq, and_true] at hb1 hb2 <;>
                  simp [Instr.sliceBounds, hb1, hb2] <;> (first | exact hb1 .sliceB | exact hb2)
              simp [execOp, ho, hv, Instr.sliceAt, run_underlying hu, Instr.sureAddr, hbs, run_sizeT hs]
          · cases h
        · cases h
      · cases h
    · cases h
  · exact aslice2_sound hg ho h rfl
def alen (P : Program) (t : TypeId) (x : AV) : Option AV :=
  match P.underlying t, x with
  | some (.slice _), .sl _ _ len _ _ => some (.int .i64 none len)
  | some (.slice _), .nils => some (.int .i64 (some 0) 0)
  | some (.slice _), .fsl _ sz l => if sz = 1 then some (.int .i64 none l.length) else none
  | some (.slice _), .dsl d => some (.int .i64 none d.l.length)
  | some .string, .str l => some (.int .i64 none l.length)
  | some (.array n _), _ => if n ≤ 4294967296 then some (.int .i64 (some n) n) else none
  | _, _ => none
theorem alen_sound {P : Program} {M : List Place} {ρ : Operand → Value} {o : Oper} {c : Call} (ho : o.op = .call c) (hc : c.callee = .builtin .len) {x : Operand} (ha : c.args = #[x]) {t : TypeId} (ht : c.argTypes[0]? = some t) {a : AV} (hx : RelV M a (ρ x))
    {r : AV} (h : alen P t a = some r) : ∃ v, RelV M r v ∧ ∀ w, (execOp ρ o).run P w = .ok (.value v) w := by
  unfold alen at h
  split at h
  · rename_i e b off len sz cc hu
    cases h
    simp only [RelV, RelX] at hx
    obtain ⟨pl, A, cap, hpl, hv, _, _, _, _, _, _, _, hlen⟩ := hx
    have hv : ρ x = .slice A len cap := by simpa using hv
    refine ⟨.int .i64 len, RelX_int.2 ⟨rfl, hlen, fun m hm => by cases hm⟩, fun w => ?_⟩
    simp [execOp, ho, resolve, hc, ha, invoke, builtin, Builtin.len_, ht, hv, run_underlying hu, goInt]
  · rename_i e hu
    cases h
    have hv : ρ x = .slice none 0 0 := by simpa [RelV, RelX] using hx
    refine ⟨.int .i64 0, RelX_int.2 ⟨rfl, by rw [has_iff]; simp [loB, hiB], fun m hm => by cases hm; rfl⟩, fun w => ?_⟩
    simp [execOp, ho, resolve, hc, ha, invoke, builtin, Builtin.len_, ht, hv, run_underlying hu, goInt]
  · rename_i e k sz l hu
    split at h
    · rename_i hsz
      subst hsz
      cases h
      simp only [RelV, RelX] at hx
      obtain ⟨v, hv, A, len, cap, rfl, hcap, hlen, hi, _, _⟩ := hx
      have hv : ρ x = .slice A len cap := by simpa using hv
      have hq : l.length = len := by omega
      refine ⟨.int .i64 len, RelX_int.2 ⟨by rw [hq], by rw [hq]; exact hi, fun m hm => by cases hm⟩, fun w => ?_⟩
      simp [execOp, ho, resolve, hc, ha, invoke, builtin, Builtin.len_, ht, hv, run_underlying hu, goInt]
    · cases h
  · rename_i e d hu
    cases h
    simp only [RelV, RelX] at hx
    obtain ⟨v, hv, A, len, cap, rfl, hcap, hlen, hi, _⟩ := hx
    have hv : ρ x = .slice A len cap := by simpa using hv
    refine ⟨.int .i64 len, RelX_int.2 ⟨by rw [hlen], by rw [hlen]; exact hi, fun m hm => by cases hm⟩, fun w => ?_⟩
    simp [execOp, ho, resolve, hc, ha, invoke, builtin, Builtin.len_, ht, hv, run_underlying hu, goInt]
  · rename_i l hu
    cases h
    simp only [RelV, RelX] at hx
    have hv : ρ x = .string (mkS l) := by simpa using hx.1
    refine ⟨.int .i64 l.length, RelX_int.2 ⟨rfl, hx.2.2, fun m hm => by cases hm⟩, fun w => ?_⟩
    simp [execOp, ho, resolve, hc, ha, invoke, builtin, Builtin.len_, ht, hv, run_underlying hu, goInt, mkS_size]
  · rename_i n e hu
    split at h
    · cases h
      refine ⟨.int .i64 n, RelX_int.2 ⟨rfl, by rw [has_iff]; simp only [loB, hiB]; omega, fun m hm => by cases hm; rfl⟩, fun w => ?_⟩
      simp [execOp, ho, resolve, hc, ha, invoke, builtin, Builtin.len_, ht, run_underlying hu, goInt]
    · cases h
  · cases h
def mm1 (mx : Bool) (k : IntKind) (lx : Option Int) (x : Int) (ly : Option Int) (y : Int) : AV :=
  if mx then litI k (lift2 max lx ly) (max x y) else litI k (lift2 min lx ly) (min x y)
def amm (mx : Bool) : AV → List AV → Option AV
  | a, [] => some a
  | .int k lx x, .int k' ly y :: r => if k' = k then amm mx (mm1 mx k lx x ly y) r else none
  | _, _ => none
theorem mm1_rel {M : List Place} {mx : Bool} {k : IntKind} {lx ly : Option Int} {x y : Int} (hx : k.has x) (hy : k.has y) (h1 : ∀ m, lx = some m → x = m) (h2 : ∀ m, ly = some m → y = m) :
    RelV M (mm1 mx k lx x ly y) (.int k (if mx then max x y else min x y)) := by
  have hm : k.has (max x y) ∧ k.has (min x y) := by
    rw [has_iff, has_iff] at *
    omega
  cases mx
  · refine relV_litI hm.2 (fun m hq => ?_)
    obtain ⟨a, b, ha, hb, e⟩ := lift2_spec hq
    rw [e, h1 a ha, h2 b hb]
  · refine relV_litI hm.1 (fun m hq => ?_)
    obtain ⟨a, b, ha, hb, e⟩ := lift2_spec hq
    rw [e, h1 a ha, h2 b hb]
theorem amm_rel {P : Program} {M : List Place} {mx : Bool} : ∀ {as : List AV} {vs : List Value} {a r : AV} {v : Value}, RelV M a v → RelL M as vs → amm mx a as = some r →
    ∃ u, RelV M r u ∧ ∀ w, (vs.foldlM (if mx then Builtin.max2 else Builtin.min2) v).run P w = .ok u w
  | [], vs, a, r, v, ha, hl, h => by
    rw [RelL_nil] at hl
    subst hl
    unfold amm at h
    cases h
    exact ⟨v, ha, fun w => by simp⟩
  | c :: as, vs, a, r, v, ha, hl, h => by
    obtain ⟨u, t, rfl, hu, ht⟩ := RelL_cons.1 hl
    unfold amm at h
    split at h
    · rename_i heq; cases heq
    · rename_i k lx x k' ly y r' heq
      injection heq with e1 e2
      subst e1; subst e2
      split at h
      · rename_i hk
        subst hk
        obtain ⟨e1, h1, l1⟩ := relV_int ha
        obtain ⟨e2, h2, l2⟩ := relV_int hu
        obtain ⟨z, hz, hrun⟩ := amm_rel (P := P) (mm1_rel (mx := mx) h1 h2 l1 l2) ht h
        refine ⟨z, hz, fun w => ?_⟩
        have hstep : ((if mx then Builtin.max2 else Builtin.min2) v u).run P w = .ok (.int k' (if mx then max x y else min x y)) w := by
          rw [e1, e2]
          cases mx
          · simp only [Bool.false_eq_true, if_false, Builtin.min2, Sem.run_pure, Result.ok.injEq, and_true, Value.int.injEq, true_and]
            split <;> omega
          · simp only [if_true, Builtin.max2, Sem.run_pure, Result.ok.injEq, and_true, Value.int.injEq, true_and]
            split <;> omega
        rw [List.foldlM_cons, Sem.run_bind, hstep]
        exact hrun w
      · cases h
    · cases h
theorem relL_map {M : List Place} {g : Operand → AV} {ρ : Operand → Value} (h : ∀ x, RelV M (g x) (ρ x)) : ∀ (l : List Operand), RelL M (l.map g) (l.map ρ)
  | [] => RelL_nil.2 rfl
  | x :: r => RelL_cons.2 ⟨ρ x, r.map ρ, rfl, h x, relL_map h r⟩
theorem amm_sound {P : Program} {M : List Place} {ρ : Operand → Value} {g : Operand → AV} (hg : ∀ x, RelV M (g x) (ρ x)) {o : Oper} {c : Call} (ho : o.op = .call c) {mx : Bool} (hc : c.callee = .builtin (if mx then .max else .min)) {x : Operand} {xs : List Operand}
    (ha : c.args.toList = x :: xs) {r : AV} (h : amm mx (g x) (xs.map g) = some r) : ∃ v, RelV M r v ∧ ∀ w, (execOp ρ o).run P w = .ok (.value v) w := by
  obtain ⟨u, hu, hrun⟩ := amm_rel (P := P) (hg x) (relL_map hg xs) h
  refine ⟨u, hu, fun w => ?_⟩
  have hargs : (c.args.map ρ).toList = ρ x :: xs.map ρ := by simp [ha]
  cases mx
  · have := hrun w
    simp only [Bool.false_eq_true, if_false] at this hc
    simp only [execOp, ho, resolve, hc, invoke, builtin, Builtin.min_, hargs, Sem.run_bind, Sem.run_pure, Result.andThen_ok, this]
  · have := hrun w
    simp only [if_true] at this hc
    simp only [execOp, ho, resolve, hc, invoke, builtin, Builtin.max_, hargs, Sem.run_bind, Sem.run_pure, Result.andThen_ok, this]
theorem mkS_append (x y : List Int) : mkS x ++ mkS y = mkS (x ++ y) := by
  apply ByteArray.ext
  simp [mkS, ByteArray.data_append]
def astr : AV → AV → Option (Bool × AV)
  | .str x, .str y => some (decide (x.length + y.length ≤ 9223372036854775807), .str (x ++ y))
  | _, _ => none
theorem astr_sound {P : Program} {M : List Place} {ρ : Operand → Value} {o : Oper} {t t' : TypeId} {x y : Operand} (ho : o.op = .binOp .add t x y t') {a b : AV} (hx : RelV M a (ρ x)) (hy : RelV M b (ρ y))
    {r : AV} (h : astr a b = some (true, r)) : ∃ v, RelV M r v ∧ ∀ w, (execOp ρ o).run P w = .ok (.value v) w := by
  unfold astr at h
  split at h
  · rename_i x1 y1
    simp only [Option.some.injEq, Prod.mk.injEq, decide_eq_true_eq] at h
    obtain ⟨hl, rfl⟩ := h
    simp only [RelV, RelX] at hx hy
    have e1 : ρ x = .string (mkS x1) := by simpa using hx.1
    have e2 : ρ y = .string (mkS y1) := by simpa using hy.1
    refine ⟨.string (mkS (x1 ++ y1)), ?_, fun w => ?_⟩
    · simp only [RelV, RelX]
      refine ⟨trivial, fun z hz => (List.mem_append.1 hz).elim (hx.2.1 z) (hy.2.1 z), ?_⟩
      rw [has_iff]
      simp only [loB, hiB, List.length_append]
      omega
    · have h1 : binOp .add t (.string (mkS x1)) (.string (mkS y1)) = Op.stringOp .add (mkS x1) (mkS y1) := rfl
      have h2 : ¬ ((((mkS x1).size + (mkS y1).size : Nat) : Int) > IntKind.i64.max) := by
        rw [mkS_size, mkS_size, show IntKind.i64.max = 9223372036854775807 from rfl]
        omega
      have h3 : Op.stringOp .add (mkS x1) (mkS y1) = pure (.string (mkS (x1 ++ y1))) := by
        simp only [Op.stringOp]
        rw [if_neg h2, mkS_append]
      rw [h3] at h1
      simp [execOp, ho, e1, e2, eqGuard, h1]
  · cases h
def abin (P : Program) (op : BinOp) (t : TypeId) (a b : AV) : Option (Bool × AV) :=
  match a, b with
  | .int k lx x, .int k' ly y => match op with
    | .shl | .shr => ashift op k lx x k' ly y
    | _ => if k' = k then abinI op k lx x ly y else none
  | _, _ => match op with
    | .eql => (aeq P t a b).map fun r => (true, .bool none r)
    | .neq => (aeq P t a b).map fun r => (true, .bool none (!r))
    | .add => astr a b
    | _ => none
theorem abin_sound {P : Program} {M : List Place} {ρ : Operand → Value} {o : Oper} {op : BinOp} {t t' : TypeId} {x y : Operand} (ho : o.op = .binOp op t x y t') {a b : AV} (hx : RelV M a (ρ x)) (hy : RelV M b (ρ y))
    {req : Bool} {r : AV} (h : abin P op t a b = some (req, r)) (hreq : req = true) : ∃ v, RelV M r v ∧ ∀ w, (execOp ρ o).run P w = .ok (.value v) w := by
  unfold abin at h
  split at h
  · rename_i k lx m k' ly n
    obtain ⟨e1, h1, l1⟩ := relV_int hx
    obtain ⟨e2, h2, l2⟩ := relV_int hy
    split at h
    · exact ashift_sound ho e1 e2 h1 h2 l1 l2 h hreq
    · exact ashift_sound ho e1 e2 h1 h2 l1 l2 h hreq
    · split at h
      · rename_i hk
        subst hk
        exact abinI_sound ho e1 e2 h1 l1 l2 h hreq
      · cases h
  · split at h
    · simp only [Option.map_eq_some_iff, Prod.mk.injEq] at h
      obtain ⟨q, hq, _, rfl⟩ := h
      exact ⟨.bool q, by simp [RelV, RelX], fun w => by simpa using aeq_sound hx hy hq .eql (.inl rfl) ho w⟩
    · simp only [Option.map_eq_some_iff, Prod.mk.injEq] at h
      obtain ⟨q, hq, _, rfl⟩ := h
      exact ⟨.bool (!q), by simp [RelV, RelX], fun w => by simpa using aeq_sound hx hy hq .neq (.inr rfl) ho w⟩
    · subst hreq
      exact astr_sound ho hx hy h
    · cases h
def aextract (a : AV) (i : Nat) : Option AV :=
  match a with
  | .tup vs => vs[i]?
  | _ => none
theorem relL_get {M : List Place} : ∀ {xs : List AV} {vs : List Value} {i : Nat} {x : AV}, RelL M xs vs → xs[i]? = some x → ∃ v, vs[i]? = some v ∧ RelV M x v
  | [], _, _, _, _, h => by simp at h
  | c :: xs, vs, i, x, hl, h => by
    obtain ⟨v, t, rfl, hv, ht⟩ := RelL_cons.1 hl
    cases i with
    | zero => simp at h; subst h; exact ⟨v, rfl, hv⟩
    | succ i => exact (relL_get ht (by simpa using h)).imp fun u hu => ⟨by simpa using hu.1, hu.2⟩
def isIface (P : Program) (t : TypeId) : Bool :=
  match P.underlying t with
  | some (.interface _) => true
  | some _ => false
  | none => true
def aq (P : Program) (H : Heap) (g : Operand → AV) : Op → Option (Bool × AV)
  | .move x | .assign x => some (true, g x)
  | .pick c a b => (apick (g c) (g a) (g b)).map (true, ·)
  | .load t a => (aload P H t (g a)).map (true, ·)
  | .binOp op t x y _ => abin P op t (g x) (g y)
  | .unOp op _ x => (aun op (g x)).map (true, ·)
  | .convert s d x => (aconv P s d (g x)).map (true, ·)
  | .build t parts => (abuild P t (parts.toList.map fun z => (z.1, g z.2))).map (true, ·)
  | .slice t x lo hi mx => aslice P t (g x) (lo.map g) (hi.map g) (mx.map g)
  | .fieldAddr t x f => (afieldAddr P t f (g x)).map (true, ·)
  | .field t x f => (afield P t f (g x)).map (true, ·)
  | .indexAddr t x i => aindexAddr P t (g x) (g i)
  | .index t x i => aindex P t (g x) (g i)
  | .extract x i => (aextract (g x) i).map (true, ·)
  | .makeFunc (.func f) first cap => some (true, .fn f (first.toList.map g) (cap.toList.map g))
  | .makeInterface t x => if isIface P t then none else some (true, .iface t (g x))
  | .nilCheck x => match g x with
    | .ptr b base dyn room span => some (true, .ptr b base dyn room span)
    | .rptr b off room => some (true, .rptr b off room)
    | .fn f a c => some (true, .fn f a c)
    | _ => none
  | .call c => match c.callee with
    | .builtin .len => match c.args.toList, c.argTypes[0]? with
      | [x], some t => (alen P t (g x)).map (true, ·)
      | _, _ => none
    | .builtin .min => match c.args.toList with
      | x :: xs => (amm false (g x) (xs.map g)).map (true, ·)
      | _ => none
    | .builtin .max => match c.args.toList with
      | x :: xs => (amm true (g x) (xs.map g)).map (true, ·)
      | _ => none
    | _ => none
  | _ => none
theorem aq_pure {P : Program} {M : List Place} {H : Heap} {ρ : Operand → Value} {g : Operand → AV} (hg : ∀ x, RelV M (g x) (ρ x)) {o : Oper} (hnl : ∀ t a, o.op ≠ .load t a)
    {req : Bool} {r : AV} (h : aq P H g o.op = some (req, r)) (hreq : req = true) : ∃ v, RelV M r v ∧ ∀ w', (execOp ρ o).run P w' = .ok (.value v) w' := by
  have weak : (∃ v, RelV M r v ∧ ∀ w', (execOp ρ o).run P w' = .ok (.value v) w') → ∃ v, RelV M r v ∧ ∀ w', (execOp ρ o).run P w' = .ok (.value v) w' := id
  have un : ∀ {α : Type} {a : Option α} {f : α → AV}, a.map (fun x => (true, f x)) = some (req, r) → ∃ x, a = some x ∧ f x = r := by
    intro α a f ha
    simp only [Option.map_eq_some_iff, Prod.mk.injEq] at ha
    obtain ⟨x, h1, _, h2⟩ := ha
    exact ⟨x, h1, h2⟩
  cases hop : o.op <;> rw [hop] at h <;> try (cases h; done)
  case move x => cases h; exact weak ⟨ρ x, hg x, fun w' => by simp [execOp, hop]⟩
  case assign x => cases h; exact weak ⟨ρ x, hg x, fun w' => by simp [execOp, hop]⟩
  case pick c a b =>
    obtain ⟨x, h1, rfl⟩ := un h
    exact weak (apick_sound hop (hg c) (hg a) (hg b) h1)
  case load t a => exact absurd hop (hnl t a)
  case binOp op t x y t' => exact weak (abin_sound hop (hg x) (hg y) h hreq)
  case unOp op t x =>
    obtain ⟨z, h1, rfl⟩ := un h
    exact weak (aun_sound hop (hg x) h1)
  case convert s d x =>
    obtain ⟨z, h1, rfl⟩ := un h
    exact weak (aconv_sound hop (hg x) h1)
  case build t parts =>
    obtain ⟨z, h1, rfl⟩ := un h
    exact weak (abuild_sound hg hop h1)
  case slice t x lo hi mx => exact weak (aslice_sound hg hop h hreq)
  case fieldAddr t x f =>
    obtain ⟨z, h1, rfl⟩ := un h
    exact weak (afieldAddr_sound hop (hg x) h1)
  case field t x f =>
    obtain ⟨z, h1, rfl⟩ := un h
    exact weak (afield_sound hop (hg x) h1)
  case indexAddr t x i => exact weak (aindexAddr_sound hop (hg x) (hg i) h hreq)
  case index t x i => exact weak (aindex_sound hop (hg x) (hg i) h hreq)
  case extract x i =>
    obtain ⟨z, h1, rfl⟩ := un h
    have hx := hg x
    unfold aextract at h1
    split at h1
    · rename_i vs hgx
      rw [hgx] at hx
      simp only [RelV, RelX] at hx
      obtain ⟨us, e, hl⟩ := hx
      have e : ρ x = .tuple us := by simpa using e
      obtain ⟨u, hu, hr⟩ := relL_get hl h1
      exact weak ⟨u, hr, fun w' => by simp [execOp, hop, e, Instr.extract, show us[i]? = some u by simpa using hu]⟩
    · cases h1
  case makeFunc fn first cap =>
    cases fn <;> try (cases h; done)
    rename_i f
    simp only [aq, Option.some.injEq, Prod.mk.injEq] at h
    obtain ⟨_, rfl⟩ := h
    refine weak ⟨.func (.func f) (first.map ρ) (cap.map ρ), ?_, fun w' => by simp [execOp, hop, Instr.makeFunc]⟩
    simp only [RelV, RelX]
    exact ⟨_, _, rfl, by simpa using relL_map hg first.toList, by simpa using relL_map hg cap.toList⟩
  case makeInterface t x =>
    simp only [aq] at h
    split at h
    · cases h
    · rename_i hi
      simp only [Option.some.injEq, Prod.mk.injEq] at h
      obtain ⟨_, rfl⟩ := h
      refine weak ⟨.iface t (ρ x), ?_, fun w' => ?_⟩
      · simp only [RelV, RelX]
        exact ⟨_, rfl, hg x⟩
      · unfold isIface at hi
        cases hu : P.underlying t with
        | none => simp [hu] at hi
        | some d => cases d <;> simp [hu] at hi <;> simp [execOp, hop, Instr.makeInterface, run_underlying hu]
  case nilCheck x =>
    have hx := hg x
    simp only [aq] at h
    split at h
    · rename_i b base dyn room span hgx
      simp only [Option.some.injEq, Prod.mk.injEq] at h
      obtain ⟨_, rfl⟩ := h
      rw [hgx] at hx
      have hx' := hx
      simp only [RelV, RelX] at hx'
      obtain ⟨pl, _, _, e, _⟩ := hx'
      have e : ρ x = _ := List.cons.inj e |>.1
      exact weak ⟨ρ x, hx, fun w' => by simp [execOp, hop, e]⟩
    · rename_i b off room hgx
      simp only [Option.some.injEq, Prod.mk.injEq] at h
      obtain ⟨_, rfl⟩ := h
      rw [hgx] at hx
      have hx' := hx
      simp only [RelV, RelX] at hx'
      obtain ⟨pl, _, _, e, _⟩ := hx'
      have e : ρ x = _ := List.cons.inj e |>.1
      exact weak ⟨ρ x, hx, fun w' => by simp [execOp, hop, e]⟩
    · rename_i f a c hgx
      simp only [Option.some.injEq, Prod.mk.injEq] at h
      obtain ⟨_, rfl⟩ := h
      rw [hgx] at hx
      have hx' := hx
      simp only [RelV, RelX] at hx'
      obtain ⟨u1, u2, e, _⟩ := hx'
      have e : ρ x = _ := List.cons.inj e |>.1
      exact weak ⟨ρ x, hx, fun w' => by simp [execOp, hop, e]⟩
    · cases h
  case call c =>
    simp only [aq] at h
    split at h
    · rename_i hc
      split at h
      · rename_i x t ha ht
        obtain ⟨z, h1, rfl⟩ := un h
        have ha' : c.args = #[x] := by
          apply Array.toList_inj.1
          simpa using ha
        exact weak (alen_sound hop hc ha' ht (hg x) h1)
      · cases h
    · rename_i hc
      split at h
      · rename_i x xs ha
        obtain ⟨z, h1, rfl⟩ := un h
        exact weak (amm_sound hg hop (mx := false) hc ha h1)
      · cases h
    · rename_i hc
      split at h
      · rename_i x xs ha
        obtain ⟨z, h1, rfl⟩ := un h
        exact weak (amm_sound hg hop (mx := true) hc ha h1)
      · cases h
    · cases h
theorem aq_sound {P : Program} {M : List Place} {H : Heap} {B : Base} {w : World} (rh : RelH M H B w) {ρ : Operand → Value} {g : Operand → AV} (hg : ∀ x, RelV M (g x) (ρ x)) {o : Oper}
    {req : Bool} {r : AV} (h : aq P H g o.op = some (req, r)) (hreq : req = true) : ∃ v, RelV M r v ∧ ∀ w', Below w.heap.size w w' → (execOp ρ o).run P w' = .ok (.value v) w' := by
  by_cases hl : ∃ t a, o.op = .load t a
  · obtain ⟨t, a, hop⟩ := hl
    rw [hop] at h
    simp only [aq, Option.map_eq_some_iff, Prod.mk.injEq] at h
    obtain ⟨x, h1, _, rfl⟩ := h
    obtain ⟨A, u, e, hu, hrun⟩ := aload_sound rh (hg a) h1
    exact ⟨u, hu, fun w' hb => by simp [execOp, hop, e, Instr.loadAt, Instr.sureAddr, hrun w' hb]⟩
  · obtain ⟨v, h1, h2⟩ := aq_pure hg (fun t a hop => hl ⟨t, a, hop⟩) h hreq
    exact ⟨v, h1, fun w' _ => h2 w'⟩
end Go.AE
set_option linter.unusedVariables false
set_option linter.unusedSimpArgs false
namespace Go.AE
open Go Go.RowKit
def contOf (cs : List AV) : Cont :=
  match oneKind cs with
  | some (k, _) => match toInts k cs with
    | some l => .row k l
    | none => .segs cs
  | none => .segs cs
theorem contOf_rel {M : List Place} {cs : List AV} {vs : List Value} (h : RelC M cs vs) : RelO M (contOf cs) vs := by
  unfold contOf
  split
  · split
    · rename_i l hl
      exact toInts_rel h hl
    · exact h
  · exact h
def zeroInts (P : Program) (t : TypeId) : Option (IntKind × Nat) :=
  match zeroC P t with
  | some z => match oneKind z with
    | some (k, m) => if toInts k z = some (List.replicate m 0) ∧ sizeT P t = some m ∧ 1 ≤ m then some (k, m) else none
    | none => none
  | none => none
theorem zeroInts_spec {P : Program} {t : TypeId} {k : IntKind} {m : Nat} (h : zeroInts P t = some (k, m)) :
    ∃ z : Value, (∀ w, (zeroValue t).run P w = .ok z w) ∧ z.cells.toList = List.replicate m (.int k 0) ∧ sizeT P t = some m ∧ 1 ≤ m ∧ k.has 0 := by
  unfold zeroInts at h
  split at h
  · rename_i z hz
    split at h
    · rename_i k' m' hk
      split at h
      · rename_i hc
        obtain ⟨h1, h2, h3⟩ := hc
        cases h
        obtain ⟨i, v, _, _, hrun, hrel⟩ := zeroC_rel hz
        obtain ⟨e1, e2⟩ := toInts_rel (hrel []) h1
        refine ⟨v, hrun, by rw [e1]; simp, h2, h3, e2 0 (by simp; omega)⟩
      · cases h
    · cases h
  · cases h
theorem zero_row {z : Value} {k : IntKind} {m : Nat} (h : z.cells.toList = List.replicate m (.int k 0)) (hm : 1 ≤ m) (n : Nat) : ((Array.range n).map (z.cells[· % z.cells.size]!)).toList = List.replicate n (.int k 0) := by
  have hs : z.cells.size = m := by have := congrArg List.length h; simpa using this
  apply List.ext_getElem?
  intro i
  by_cases hi : i < n
  · have hlt : i % m < z.cells.size := by rw [hs]; exact Nat.mod_lt _ (by omega)
    have : z.cells[i % m]? = some (.int k 0) := by
      have := congrArg (fun l : List Value => l[i % m]?) h
      simp only [Array.getElem?_toList, List.getElem?_replicate] at this
      rw [this, if_pos (Nat.mod_lt _ (by omega))]
    have h2 : z.cells[i % m]! = .int k 0 := by
      rw [getElem!_pos z.cells (i % m) hlt]
      rw [Array.getElem?_eq_getElem hlt] at this
      exact Option.some.inj this
    simp [hi, hs, h2]
  · simp [hi]
theorem relV_newSl {M : List Place} {H : Heap} {B : Base} {w : World} (r : RelH M H B w) {len sz cap size : Nat} (hcap : len ≤ cap) (hsz : cap * sz ≤ size) (hl : IntKind.i64.has (len : Int)) :
    RelV (M ++ [newPlace w (len * sz) size]) (.sl H.length 0 len sz .own) (.slice (some ⟨w.heap.size, 0, none⟩) len cap) := by
  simp only [RelV, RelX]
  refine ⟨newPlace w (len * sz) size, _, cap, by rw [r.len]; simp, rfl, by simp [newPlace], hcap, fun h => (by cases h), fun _ => ⟨by simp, fun _ => by simp [newPlace]⟩, fun h => (by cases h), fun _ => ⟨trivial, rfl, rfl, hsz⟩, fun h => (by cases h), hl⟩
def contLaid (P : Program) (e : TypeId) (s len : Nat) (parts : List (Nat × AV)) : Option Cont :=
  match zeroInts P e with
  | some (k, _) => match laidIn (placeA s) parts [.is k (len * s) (List.replicate (len * s) 0)] with
    | some cs => some (contOf cs)
    | none => none
  | none => none
def contMade (P : Program) (e : TypeId) (s : Nat) (z : List AV) (len : Nat) (parts : List (Nat × AV)) : Option Cont :=
  if len = 0 ∧ parts.isEmpty = true then (match oneKind z with | some (k, _) => some (.row k []) | none => some (.segs []))
  else match consec (placeA s) parts 0 with
    | some (cs, n) => if n = len * s then some (contOf cs) else contLaid P e s len parts
    | none => contLaid P e s len parts
def abuildSlice (P : Program) (H : Heap) (t : TypeId) (len : Nat) (parts : List (Nat × AV)) : Option (AV × Heap) :=
  match P.underlying t with
  | some (.slice e) => match sizeT P e, zeroC P e with
    | some s, some z => if 1 ≤ s ∧ len * s ≤ 16777216 then
        match contMade P e s z len parts with
        | some c => some (.sl H.length 0 len s .own, H ++ [some ⟨c, true, none⟩])
        | none => none
      else none
    | _, _ => none
  | _ => none
theorem buildSlice_run {P : Program} {t e : TypeId} {ρ : Operand → Value} {o : Oper} {len : Nat} {parts : Array (Nat × Operand)} (ho : o.op = .buildSlice t len parts) (hu : P.underlying t = some (.slice e)) {s : Nat} (hs : sizeT P e = some s) (hb : len * s ≤ 16777216)
    {z : Value} (hz : ∀ w, (zeroValue e).run P w = .ok z w) {cells : Array Value} (hf : ∀ zs : Array Value, zs = (if len * s = 0 then #[] else (Array.range (len * s)).map (z.cells[· % z.cells.size]!)) → Instr.fill (fun i => some (i * s, s)) zs (parts.toList.map fun z => (z.1, ρ z.2)) = some cells) (w : World) :
    (execOp ρ o).run P w = .ok (.value (.slice (some ⟨w.heap.size, 0, none⟩) len len)) (w.alloc (.cells cells e)) := by
  have hng : ¬ (len * s > 2 ^ 24) := by omega
  by_cases h0 : len * s = 0
  · have := hf #[] (by simp [h0])
    have e0 : Array.map (fun _ : Nat => (default : Value)) (Array.range 0) = #[] := by apply Array.ext <;> simp
    simp only [execOp, ho, Instr.buildSlice, Sem.run_bind, run_underlying hu, Result.andThen_ok, run_sizeT hs, h0, if_true]
    simp [e0, this, newRow, newObj, Sem.run]
  · have := hf _ (by rw [if_neg h0])
    simp only [execOp, ho, Instr.buildSlice, Sem.run_bind, run_underlying hu, Result.andThen_ok, run_sizeT hs, hng, if_false, h0, hz w, Sem.run_pure]
    simp [this, newRow, newObj, Sem.run]
theorem abuildSlice_run {P : Program} {M : List Place} {H : Heap} {ρ : Operand → Value} {g : Operand → AV} (hg : ∀ x, RelV M (g x) (ρ x)) {o : Oper} {t : TypeId} {len : Nat} {parts : Array (Nat × Operand)} (ho : o.op = .buildSlice t len parts) {x : AV} {H' : Heap}
    (h : abuildSlice P H t len (parts.toList.map fun z => (z.1, g z.2)) = some (x, H')) :
    ∃ (c : Cont) (cells : Array Value) (e : TypeId) (s : Nat), x = .sl H.length 0 len s .own ∧ H' = H ++ [some ⟨c, true, none⟩] ∧ RelO M c cells.toList ∧ cells.size = len * s ∧ IntKind.i64.has (len : Int) ∧ ∀ w, (execOp ρ o).run P w = .ok (.value (.slice (some ⟨w.heap.size, 0, none⟩) len len)) (w.alloc (.cells cells e)) := by
  unfold abuildSlice at h
  have hp := relP_map hg parts.toList
  split at h
  · rename_i e hu
    split at h
    · rename_i s z hs hz
      obtain ⟨_, zv, _, _, hzrun, hzrel⟩ := zeroC_rel hz
      split at h
      · rename_i hb
        obtain ⟨h1s, hb⟩ := hb
        have hlen : IntKind.i64.has (len : Int) := by
          rw [has_iff]; simp only [loB, hiB]
          have : len ≤ len * s := Nat.le_mul_of_pos_right _ h1s
          omega
        have fin : ∀ (c : Cont) (cells : Array Value), RelO M c cells.toList → cells.size = len * s →
            (∀ zs : Array Value, zs = (if len * s = 0 then #[] else (Array.range (len * s)).map (zv.cells[· % zv.cells.size]!)) → Instr.fill (fun i => some (i * s, s)) zs (parts.toList.map fun z => (z.1, ρ z.2)) = some cells) →
            (AV.sl H.length 0 len s .own, H ++ [some ⟨c, true, none⟩]) = (x, H') →
            ∃ (c : Cont) (cells : Array Value) (e : TypeId) (s : Nat), x = .sl H.length 0 len s .own ∧ H' = H ++ [some ⟨c, true, none⟩] ∧ RelO M c cells.toList ∧ cells.size = len * s ∧ IntKind.i64.has (len : Int) ∧ ∀ w, (execOp ρ o).run P w = .ok (.value (.slice (some ⟨w.heap.size, 0, none⟩) len len)) (w.alloc (.cells cells e)) := by
          intro c cells hc hsize hf hx
          cases hx
          exact ⟨c, cells, e, s, rfl, rfl, hc, hsize, hlen, fun w => buildSlice_run ho hu hs hb hzrun hf w⟩
        have hsz0 : ∀ zs : Array Value, zs = (if len * s = 0 then #[] else (Array.range (len * s)).map (zv.cells[· % zv.cells.size]!)) → zs.size = len * s := by
          intro zs hzs
          rw [hzs]
          split
          · rename_i h0; simp [h0]
          · simp
        have laid : ∀ c, contLaid P e s len (parts.toList.map fun z => (z.1, g z.2)) = some c → ∃ cells : Array Value, RelO M c cells.toList ∧ cells.size = len * s ∧
            ∀ zs : Array Value, zs = (if len * s = 0 then #[] else (Array.range (len * s)).map (zv.cells[· % zv.cells.size]!)) → Instr.fill (fun i => some (i * s, s)) zs (parts.toList.map fun z => (z.1, ρ z.2)) = some cells := by
          intro c hl
          unfold contLaid at hl
          split at hl
          · rename_i k m hzi
            obtain ⟨z2, hz2, hcells, _, hm1, hk0⟩ := zeroInts_spec hzi
            have hzz : z2 = zv := by
              have h1 := hz2 default
              rw [hzrun default] at h1
              cases h1
              rfl
            subst hzz
            split at hl
            · rename_i cs hcs
              cases hl
              have hrow := zero_row hcells hm1 (len * s)
              have hstart : RelC M [AV.is k (len * s) (List.replicate (len * s) 0)] (if len * s = 0 then (#[] : Array Value) else (Array.range (len * s)).map (z2.cells[· % z2.cells.size]!)).toList := by
                rw [RelC_single, RelX_is]
                refine ⟨by simp, ?_, fun y hy => by rw [(List.mem_replicate.1 hy).2]; exact hk0⟩
                split
                · rename_i h0; simp [h0]
                · rw [hrow]; simp
              obtain ⟨cells', f1, f2, f3⟩ := laidIn_fill hp hstart hcs
              exact ⟨cells', contOf_rel f2, by rw [f3]; exact hsz0 _ rfl, fun zs hzs => by rw [hzs]; exact f1⟩
            · cases hl
          · cases hl
        split at h
        · rename_i c hcm
          simp only [Option.some.injEq] at h
          suffices hk : ∃ cells : Array Value, RelO M c cells.toList ∧ cells.size = len * s ∧
              ∀ zs : Array Value, zs = (if len * s = 0 then #[] else (Array.range (len * s)).map (zv.cells[· % zv.cells.size]!)) → Instr.fill (fun i => some (i * s, s)) zs (parts.toList.map fun z => (z.1, ρ z.2)) = some cells by
            obtain ⟨cells, k1, k2, k3⟩ := hk
            exact fin c cells k1 k2 k3 h
          unfold contMade at hcm
          split at hcm
          · rename_i hpe
            obtain ⟨h0, hpe⟩ := hpe
            subst h0
            have hpn : parts.toList = [] := by
              rw [List.isEmpty_iff] at hpe
              simpa using hpe
            refine ⟨#[], ?_, by simp, fun zs hzs => ?_⟩
            · split at hcm
              · cases hcm; simp [RelO]
              · cases hcm; simp [RelO, RelC_nil]
            · rw [hzs]
              simp [hpn, Instr.fill]
          · split at hcm
            · rename_i cs n hc
              split at hcm
              · rename_i hn
                subst hn
                cases hcm
                have key : ∀ zs : Array Value, zs.size = len * s → ∃ cells' : Array Value, Instr.fill (fun i => some (i * s, s)) zs (parts.toList.map fun z => (z.1, ρ z.2)) = some cells' ∧ RelC M cs cells'.toList ∧ cells'.size = len * s := by
                  intro zs hzs
                  obtain ⟨_, c', k1, us, k2, k3, k4⟩ := consec_fill hp hc (cells := zs) (by omega)
                  refine ⟨c', k1, ?_, ?_⟩
                  · rw [k4, List.drop_of_length_le (by simp; omega)]
                    simpa using k2
                  · have := congrArg List.length k4
                    simp at this
                    omega
                obtain ⟨c', k1, k2, k3⟩ := key _ (hsz0 _ rfl)
                exact ⟨c', contOf_rel k2, k3, fun zs hzs => by rw [hzs]; exact k1⟩
              · exact laid _ hcm
            · exact laid _ hcm
        · cases h
      · cases h
    · cases h
  · cases h
theorem abuildSlice_sound {P : Program} {M : List Place} {H : Heap} {B : Base} {w : World} (r : RelH M H B w) {ρ : Operand → Value} {g : Operand → AV} (hg : ∀ x, RelV M (g x) (ρ x)) {o : Oper} {t : TypeId} {len : Nat} {parts : Array (Nat × Operand)} (ho : o.op = .buildSlice t len parts) {x : AV} {H' : Heap}
    (h : abuildSlice P H t len (parts.toList.map fun z => (z.1, g z.2)) = some (x, H')) :
    ∃ v w' M', (execOp ρ o).run P w = .ok (.value v) w' ∧ Ext M M' ∧ RelH M' H' B w' ∧ Beneath B w w' ∧ RelV M' x v := by
  obtain ⟨c, cells, e, s, rfl, rfl, hc, hsize, hlen, hrun⟩ := abuildSlice_run (M := M) hg ho h
  obtain ⟨a1, a2, a3⟩ := r.alloc (c := c) (cs := cells) (el := e) (n := len * s) (by omega) (by rw [List.take_of_length_le (by simp; omega)]; exact hc) true
  exact ⟨_, _, _, hrun w, a2, a1, a3, relV_newSl r (Nat.le_refl _) (by omega) hlen⟩
def litN (l : Option Int) (x : Int) : Nat := match l with | some p => p.toNat | none => x.toNat
theorem makeSlice_run {P : Program} {t e : TypeId} {k : IntKind} {m : Nat} {i : TypeInfo} {n : Int} (hu : P.underlying t = some (.slice e)) (hzi : zeroInts P e = some (k, m)) (hi : P.info? e = some i) (hby : i.bytes ≤ 64) (n0 : 0 ≤ n) (n1 : n ≤ 1099511627776)
    {ρ : Operand → Value} {o : Oper} {y z : Operand} (ho : o.op = .makeSlice t y z) (e1 : ρ y = .int .i64 n) (e2 : ρ z = .int .i64 n) :
    k.has 0 ∧ ∃ cells : Array Value, cells.toList = List.replicate (n.toNat * m) (.int k 0) ∧ ∀ w, (execOp ρ o).run P w = .ok (.value (.slice (some ⟨w.heap.size, 0, none⟩) n.toNat n.toNat)) (w.alloc (.cells cells e)) := by
  obtain ⟨zv, hzrun, hcells, hsz, hm1, hk0⟩ := zeroInts_spec hzi
  have hrow := zero_row hcells hm1 (n.toNat * m)
  have hwrap : IntKind.i64.wrap n = n := wrap_id (by rw [has_iff]; simp only [loB, hiB]; omega)
  have hbig : ¬ ((i.bytes : Int) * n > 2 ^ 48) := by
    have h1 : (i.bytes : Int) * n ≤ 64 * n := Int.mul_le_mul_of_nonneg_right (by omega) n0
    omega
  let cells : Array Value := if n.toNat * m = 0 then #[] else (Array.range (n.toNat * m)).map (zv.cells[· % zv.cells.size]!)
  have hcl : cells.toList = List.replicate (n.toNat * m) (.int k 0) := by
    show (if n.toNat * m = 0 then (#[] : Array Value) else _).toList = _
    split
    · rename_i h0; simp [h0]
    · exact hrow
  refine ⟨hk0, cells, hcl, fun w => ?_⟩
  have hask : ∀ (b : Nat) w, (askRoom b).run P w = .ok () w := by
    intro b w
    unfold askRoom
    split <;> simp [mark, Sem.run]
  have hlt : ¬ n < 0 := by omega
  simp only [execOp, ho, e1, e2, Instr.makeSlice, Sem.run_bind, run_underlying hu, Result.andThen_ok, asInt, asIntOf, Sem.run_pure, typeInfo, run_program, hi, hwrap, hlt, hbig, decide_false, Bool.or_false, Bool.false_or, Bool.or_self]
  simp only [hask, run_sizeT hsz, newRow, newObj, Sem.run, Sem.run_ite, Sem.run_bind, Result.andThen_ok, Bool.false_eq_true, if_false, Sem.run_pure, hzrun w]
  by_cases h0 : n.toNat * m = 0
  · have hc0 : cells = #[] := by
      apply Array.eq_empty_of_size_eq_zero
      have := congrArg List.length hcl
      simpa [h0] using this
    have e0 : Array.map (fun _ : Nat => (default : Value)) (Array.range 0) = #[] := by apply Array.ext <;> simp
    simp [h0, hc0, e0, Sem.run]
  · have hc1 : cells = (Array.range (n.toNat * m)).map (zv.cells[· % zv.cells.size]!) := by
      show (if n.toNat * m = 0 then (#[] : Array Value) else _) = _
      rw [if_neg h0]
    simp [h0, hc1, Sem.run]
def amake (P : Program) (H : Heap) (t : TypeId) (a b : AV) : Option (Bool × AV × Heap) :=
  match P.underlying t, a, b with
  | some (.slice e), .int .i64 l x, .int .i64 l' y => match zeroInts P e, P.info? e with
    | some (k, m), some i => if i.bytes ≤ 64 then
        some ((match l, l' with | some p, some q => decide (0 ≤ p) && decide (p ≤ 1099511627776) && decide (p = q) | _, _ => decide (0 ≤ x) && (decide (x ≤ 1099511627776) && decide (x = y))),
          .sl H.length 0 (litN l x) m .own, H ++ [some ⟨.row k (List.replicate (mul1 (litN l x) m) 0), true, none⟩])
      else none
    | _, _ => none
  | _, _, _ => none
theorem amake_sound {P : Program} {M : List Place} {H : Heap} {B : Base} {w : World} (r : RelH M H B w) {ρ : Operand → Value} {o : Oper} {t : TypeId} {y z : Operand} (ho : o.op = .makeSlice t y z) {a b : AV} (ha : RelV M a (ρ y)) (hb : RelV M b (ρ z)) {x : AV} {H' : Heap} {req : Bool}
    (h : amake P H t a b = some (req, x, H')) (hreq : req = true) :
    ∃ v w' M', (execOp ρ o).run P w = .ok (.value v) w' ∧ Ext M M' ∧ RelH M' H' B w' ∧ Beneath B w w' ∧ RelV M' x v := by
  subst hreq
  unfold amake at h
  split at h
  · rename_i e l n l' n' hu
    obtain ⟨e1, g1, l1⟩ := relV_int ha
    obtain ⟨e2, g2, l2⟩ := relV_int hb
    split at h
    · rename_i k m i hzi hi
      obtain ⟨zv, hzrun, hcells, hsz, hm1, hk0⟩ := zeroInts_spec hzi
      split at h
      · rename_i hby
        simp only [Option.some.injEq, Prod.mk.injEq] at h
        obtain ⟨hq, hx, hH⟩ := h
        have hn : 0 ≤ n ∧ n ≤ 1099511627776 ∧ n = n' := by
          cases l with
          | none => simp only [Bool.and_eq_true, decide_eq_true_eq] at hq; omega
          | some p =>
            cases l' with
            | none => simp only [Bool.and_eq_true, decide_eq_true_eq] at hq; omega
            | some q =>
              have := l1 p rfl
              have := l2 q rfl
              simp only [Bool.and_eq_true, decide_eq_true_eq] at hq
              omega
        obtain ⟨n0, n1, n2⟩ := hn
        subst n2
        have hln : litN l n = n.toNat := by
          cases l with
          | none => rfl
          | some p => have := l1 p rfl; subst this; rfl
        rw [hln] at hx hH
        have hrow := zero_row hcells hm1 (n.toNat * m)
        have hwrap : IntKind.i64.wrap n = n := wrap_id (by rw [has_iff]; simp only [loB, hiB]; omega)
        have hbig : ¬ ((i.bytes : Int) * n > 2 ^ 48) := by
          have h1 : (i.bytes : Int) * n ≤ 64 * n := Int.mul_le_mul_of_nonneg_right (by omega) n0
          omega
        let cells : Array Value := if n.toNat * m = 0 then #[] else (Array.range (n.toNat * m)).map (zv.cells[· % zv.cells.size]!)
        have hcl : cells.toList = List.replicate (n.toNat * m) (.int k 0) := by
          show (if n.toNat * m = 0 then (#[] : Array Value) else _).toList = _
          split
          · rename_i h0; simp [h0]
          · exact hrow
        have hcs : cells.size = n.toNat * m := by have := congrArg List.length hcl; simpa using this
        obtain ⟨a1, a2, a3⟩ := r.alloc (c := .row k (List.replicate (n.toNat * m) 0)) (cs := cells) (el := e) (n := n.toNat * m) (by omega) (by
          rw [List.take_of_length_le (by simp; omega), hcl]
          exact ⟨by simp, fun y hy => by rw [(List.mem_replicate.1 hy).2]; exact hk0⟩) true
        refine ⟨.slice (some ⟨w.heap.size, 0, none⟩) n.toNat n.toNat, w.alloc (.cells cells e), _, ?_, a2, ?_, a3, ?_⟩
        · have hask : ∀ (b : Nat) w, (askRoom b).run P w = .ok () w := by
            intro b w
            unfold askRoom
            split <;> simp [mark, Sem.run]
          have hlt : ¬ n < 0 := by omega
          simp only [execOp, ho, e1, e2, Instr.makeSlice, Sem.run_bind, run_underlying hu, Result.andThen_ok, asInt, asIntOf, Sem.run_pure, typeInfo, run_program, hi, hwrap, hlt, hbig, decide_false, Bool.or_false, Bool.false_or, Bool.or_self]
          simp only [hask, run_sizeT hsz, newRow, newObj, Sem.run, Sem.run_ite, Sem.run_bind, Result.andThen_ok, Bool.false_eq_true, if_false, Sem.run_pure, hzrun w]
          by_cases h0 : n.toNat * m = 0
          · have hc0 : cells = #[] := by
              apply Array.eq_empty_of_size_eq_zero
              omega
            have e0 : Array.map (fun _ : Nat => (default : Value)) (Array.range 0) = #[] := by apply Array.ext <;> simp
            simp [h0, hc0, e0, Sem.run]
          · have hc1 : cells = (Array.range (n.toNat * m)).map (zv.cells[· % zv.cells.size]!) := by
              show (if n.toNat * m = 0 then (#[] : Array Value) else _) = _
              rw [if_neg h0]
            simp [h0, hc1, Sem.run]
        · rw [← hH, mul1_eq]; exact a1
        · rw [← hx]
          exact relV_newSl r (Nat.le_refl _) (by omega) (by rw [has_iff]; simp only [loB, hiB]; omega)
      · cases h
    · cases h
  · cases h
end Go.AE

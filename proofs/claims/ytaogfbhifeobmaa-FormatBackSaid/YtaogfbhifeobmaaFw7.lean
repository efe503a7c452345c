/- The framework AE, part 7: memory made and written. -/
import Derived.Test.YtaogfbhifeobmaaFw6
set_option linter.unusedVariables false
set_option linter.unusedSimpArgs false
namespace Go.AE
open Go Go.RowKit

def newPlace (w : World) (n size : Nat) : Place := ⟨false, w.heap.size, 0, n, size, noFz⟩

theorem below_alloc (w : World) (o : Obj) : Below w.heap.size w (w.alloc o) := (Below.refl _ _).alloc (Nat.le_refl _) o

theorem snoc_cases {M : List Place} {H : Heap} (hl : H.length = M.length) {x : Option AObj} {p : Place} {i : Nat} {o : AObj} {pl : Place} (h : (H ++ [x])[i]? = some (some o)) (hp : (M ++ [p])[i]? = some pl) :
    (H[i]? = some (some o) ∧ M[i]? = some pl) ∨ (x = some o ∧ p = pl) := by
  by_cases hi : i < M.length
  · rw [List.getElem?_append_left (by omega)] at h
    rw [List.getElem?_append_left hi] at hp
    exact .inl ⟨h, hp⟩
  · rw [List.getElem?_append_right (by omega)] at h
    rw [List.getElem?_append_right (by omega)] at hp
    cases hq : i - M.length with
    | zero =>
      rw [hq] at hp
      rw [hl, hq] at h
      simp at h hp
      exact .inr ⟨h, hp⟩
    | succ k => rw [hq] at hp; simp at hp

/-- A new block of the call's own. -/
theorem RelH.alloc {M : List Place} {H : Heap} {B : Base} {w : World} (r : RelH M H B w) {c : Cont} {cs : Array Value} {el : TypeId} {n : Nat} (hn : n ≤ cs.size) (hc : RelO M c (cs.toList.take n)) (own : Bool) :
    RelH (M ++ [newPlace w n cs.size]) (H ++ [some ⟨c, own, none⟩]) B (w.alloc (.cells cs el)) ∧ Ext M (M ++ [newPlace w n cs.size]) ∧ Beneath B w (w.alloc (.cells cs el)) := by
  have hE : Ext M (M ++ [newPlace w n cs.size]) := Ext.snoc M _
  have hb := below_alloc w (.cells cs el)
  have hr := r.below hb
  refine ⟨⟨by simp [r.len], hr.base, fun i o ho => ?_, fun i j oi oj pi pj hi hj hpi hpj hne how hni hnj => ?_, fun i o pl k ho hp hk => ?_, fun i o pl ho hp hn => ?_, fun k ob hk => hr.fz k ob (FzAt.snoc rfl hk), fun i o pl ho hp how hn => ?_, hr.bf⟩, hE, .of hb⟩
  · rw [List.getElem?_append] at ho
    split at ho
    · rename_i hlt
      obtain ⟨pl, hp, hok⟩ := hr.obj i o ho
      refine ⟨pl, hE _ _ hp, ?_⟩
      rcases hok with ⟨a1, a2, a3⟩ | ⟨a1, cs', el', fz, a2, a3, a4, a5, a6⟩
      · exact .inl ⟨a1, a2, a3.mono hE⟩
      · exact .inr ⟨a1, cs', el', fz, a2, a3, a4, a5.mono hE, a6⟩
    · rename_i hge
      have hi : i - H.length = 0 := by
        rcases Nat.eq_zero_or_pos (i - H.length) with h | h
        · exact h
        · rw [List.getElem?_eq_none (by simp; omega)] at ho; cases ho
      rw [hi] at ho
      simp at ho
      subst ho
      have hi' : i = M.length := by have := r.len; omega
      subst hi'
      refine ⟨newPlace w n cs.size, by simp, .inr ⟨rfl, cs, el, (0, 0), ?_, rfl, by simpa [newPlace] using hn, ?_, fun _ => ⟨rfl, rfl, (r.base _ (Nat.le_refl _)).1⟩⟩⟩
      · exact heap_alloc_new w _
      · simpa [newPlace] using hc.mono hE
  · -- apart
    have old : ∀ (i : Nat) (oi : AObj) (pi : Place), (H ++ [some ⟨c, own, none⟩])[i]? = some (some oi) → (M ++ [newPlace w n cs.size])[i]? = some pi → pi.nil = false → i ≠ M.length →
        H[i]? = some (some oi) ∧ M[i]? = some pi ∧ pi.blk < w.heap.size := by
      intro i oi pi hi hpi hni hne
      have hlen := r.len
      have hlt : i < M.length := by
        have := (List.getElem?_eq_some_iff.1 hpi).1
        simp at this
        omega
      rw [List.getElem?_append_left (by omega)] at hi hpi
      refine ⟨hi, hpi, ?_⟩
      obtain ⟨pl, hp, hok⟩ := r.obj i oi hi
      rw [hpi] at hp
      cases hp
      rcases hok with ⟨a1, _⟩ | ⟨_, cs', el', fz, a2, _⟩
      · rw [hni] at a1; cases a1
      · exact (Array.getElem?_eq_some_iff.1 a2).1
    have new : ∀ (i : Nat) (pi : Place), (M ++ [newPlace w n cs.size])[i]? = some pi → i = M.length → pi.blk = w.heap.size := by
      intro i pi hpi hi
      subst hi
      simp at hpi
      subst hpi
      rfl
    by_cases h1 : i = M.length <;> by_cases h2 : j = M.length
    · omega
    · have := new i pi hpi h1
      have := (old j oj pj hj hpj hnj h2).2.2
      omega
    · have := new j pj hpj h2
      have := (old i oi pi hi hpi hni h1).2.2
      omega
    · obtain ⟨b1, b2, _⟩ := old i oi pi hi hpi hni h1
      obtain ⟨c1, c2, _⟩ := old j oj pj hj hpj hnj h2
      exact r.sep i j oi oj pi pj b1 c1 b2 c2 hne how hni hnj
  · rcases snoc_cases r.len ho hp with ⟨h1, h2⟩ | ⟨h, rfl⟩
    · exact r.pin i o pl k h1 h2 hk
    · cases h; cases hk
  · rcases snoc_cases r.len ho hp with ⟨h1, h2⟩ | ⟨_, rfl⟩
    · exact r.vis i o pl h1 h2 hn
    · exact (r.base _ (Nat.le_refl _)).2
  · rcases snoc_cases r.len ho hp with ⟨h1, h2⟩ | ⟨_, rfl⟩
    · exact ⟨(r.fo i o pl h1 h2 how hn).1, fun ob h => (r.fo i o pl h1 h2 how hn).2 ob (FzAt.snoc rfl h)⟩
    · exact ⟨r.bf _ (Nat.le_refl _), fun ob h => absurd (r.fz_lt (FzAt.snoc rfl h)) (Nat.lt_irrefl _)⟩

theorem set_back {H : Heap} {b : Nat} {o : AObj} (ho : H[b]? = some (some o)) {c : Cont} {i : Nat} {oi : AObj} (hi : (H.set b (some { o with c := c }))[i]? = some (some oi)) : ∃ oi', H[i]? = some (some oi') ∧ oi'.own = oi.own ∧ oi'.pin = oi.pin := by
  rw [List.getElem?_set] at hi
  split at hi
  · rename_i hbi
    subst hbi
    split at hi
    · cases hi; exact ⟨o, ho, rfl, rfl⟩
    · cases hi
  · exact ⟨oi, hi, rfl, rfl⟩

/-- A block of the call's own, written. -/
theorem RelH.write {M : List Place} {H : Heap} {B : Base} {w : World} (r : RelH M H B w) {b : Nat} {o : AObj} {pl : Place} (ho : H[b]? = some (some o)) (how : o.own = true) (hpl : M[b]? = some pl) (hnil : pl.nil = false)
    {cs : Array Value} {el : TypeId} {fz : Nat × Nat} (hg : w.heap[pl.blk]? = some (.cells cs el fz)) {us : Array Value} (hsz : us.size = cs.size) {c : Cont} (hc : RelO M c ((us.toList.drop pl.off).take pl.n)) :
    RelH M (H.set b (some { o with c := c })) B (w.setRow pl.blk us) ∧ Beneath B w (w.setRow pl.blk us) := by
  obtain ⟨pl', hpl', hok⟩ := r.obj b o ho
  rw [hpl] at hpl'
  cases hpl'
  rcases hok with ⟨a1, _⟩ | ⟨_, cs', el', fz', hg', hs1, hs2, hro, hown⟩
  · rw [hnil] at a1; cases a1
  rw [hg] at hg'
  cases hg'
  obtain ⟨hfz, hoff, hB⟩ := hown how
  have hset : ∀ k, k ≠ pl.blk → (w.setRow pl.blk us).heap[k]? = w.heap[k]? := fun k hk => setRow_other w pl.blk k us (fun h => hk h)
  have hself := setRow_heap w pl.blk cs us el fz hg
  refine ⟨⟨by simp [r.len], by simpa using r.base, fun i oi hi => ?_, fun i j oi oj pi pj hi hj hpi hpj hne how' hni hnj => ?_, fun i oi pi k hi hpi hk => ?_, fun i oi pi hi hpi hn => ?_,
    fun k ob hk => ⟨(hset k (fun e => (r.fo b o pl ho hpl how hnil).2 ob (e ▸ hk))).trans (r.fz k ob hk).1, (r.fz k ob hk).2⟩, fun i oi pi hi hpi how' hn => ?_, by simpa using r.bf⟩, ⟨rfl, rfl, rfl, by simp, fun k _ hw => hset k (fun e => hw (e ▸ hB))⟩⟩
  · rw [List.getElem?_set] at hi
    split at hi
    · rename_i hbi
      subst hbi
      split at hi
      · cases hi
        exact ⟨pl, hpl, .inr ⟨hnil, us, el, fz, hself, by rw [hsz, hs1], hs2, hc, fun _ => ⟨hfz, hoff, hB⟩⟩⟩
      · cases hi
    · rename_i hbi
      obtain ⟨pi, hpi, hoki⟩ := r.obj i oi hi
      refine ⟨pi, hpi, ?_⟩
      rcases hoki with hoki | ⟨n1, cs1, el1, fz1, g1, rest⟩
      · exact .inl hoki
      · refine .inr ⟨n1, cs1, el1, fz1, ?_, rest⟩
        rw [hset]
        · exact g1
        · exact fun h => r.sep b i o oi pl pi ho hi hpl hpi hbi how hnil n1 h.symm
  · obtain ⟨oi', hi', e1, _⟩ := set_back ho hi
    obtain ⟨oj', hj', e2, _⟩ := set_back ho hj
    exact r.sep i j oi' oj' pi pj hi' hj' hpi hpj hne (by rw [e1]; exact how') hni hnj
  · obtain ⟨oi', hi', _, e2⟩ := set_back ho hi
    exact r.pin i oi' pi k hi' hpi (by rw [e2]; exact hk)
  · obtain ⟨oi', hi', _, e2⟩ := set_back ho hi
    exact r.vis i oi' pi hi' hpi hn
  · obtain ⟨oi', hi', e1, _⟩ := set_back ho hi
    exact r.fo i oi' pi hi' hpi (by rw [e1]; exact how') hn

/-- What is no more looked at. -/
theorem RelH.kill {M : List Place} {H : Heap} {B : Base} {w : World} (r : RelH M H B w) (b : Nat) : RelH M (H.set b none) B w := by
  have back : ∀ (i : Nat) (oi : AObj), (H.set b none)[i]? = some (some oi) → H[i]? = some (some oi) := by
    intro i oi hi
    rw [List.getElem?_set] at hi
    split at hi
    · split at hi <;> cases hi
    · exact hi
  exact ⟨by simp [r.len], r.base, fun i o ho => r.obj i o (back i o ho), fun i j oi oj pi pj hi hj => r.sep i j oi oj pi pj (back i oi hi) (back j oj hj), fun i o pl k ho => r.pin i o pl k (back i o ho), fun i o pl ho => r.vis i o pl (back i o ho), r.fz, fun i o pl ho => r.fo i o pl (back i o ho), r.bf⟩

/-! ### alloc, box -/

def aalloc (P : Program) (H : Heap) (t : TypeId) : Option (AV × Heap) :=
  match zeroC P t with
  | some cs => some (.ptr H.length 0 none (wid cs) (wid cs), H ++ [some ⟨.segs cs, true, none⟩])
  | none => none

def abox (H : Heap) (x : AV) : Option (AV × Heap) :=
  match cellsA x with
  | some cs => some (.ptr H.length 0 none (wid cs) (wid cs), H ++ [some ⟨.segs cs, true, none⟩])
  | none => none

theorem relV_newPtr {M : List Place} {H : Heap} {B : Base} {w : World} (r : RelH M H B w) (n : Nat) (size : Nat) : RelV (M ++ [newPlace w n size]) (.ptr H.length 0 none n n) (.pointer (some ⟨w.heap.size, 0, none⟩)) := by
  simp only [RelV, RelX]
  exact ⟨newPlace w n size, by rw [r.len]; simp, rfl, by simp [newPlace], by simp, by simp [newPlace]⟩

theorem new_var {P : Program} {M : List Place} {H : Heap} {B : Base} {w : World} (r : RelH M H B w) {t : TypeId} {v : Value} {cs : List AV} (hc : RelC M cs v.cells.toList) :
    ∃ w' M', (newVar t v).run P w = .ok ⟨w.heap.size, 0, none⟩ w' ∧ Ext M M' ∧ RelH M' (H ++ [some ⟨.segs cs, true, none⟩]) B w' ∧ Beneath B w w' ∧ RelV M' (.ptr H.length 0 none (wid cs) (wid cs)) (.pointer (some ⟨w.heap.size, 0, none⟩)) := by
  have hl := RelC_length hc
  simp at hl
  obtain ⟨h1, h2, h3⟩ := r.alloc (c := .segs cs) (cs := v.cells) (el := t) (n := wid cs) (by omega) (by
    rw [List.take_of_length_le (by simp; omega)]
    exact hc) true
  refine ⟨w.alloc (.cells v.cells t), _, ?_, h2, h1, h3, relV_newPtr r _ _⟩
  simp [newVar, newRow, newObj, Sem.run]

theorem aalloc_sound {P : Program} {M : List Place} {H : Heap} {B : Base} {w : World} (r : RelH M H B w) {ρ : Operand → Value} {o : Oper} {t : TypeId} (ho : o.op = .alloc t) {x : AV} {H' : Heap} (h : aalloc P H t = some (x, H')) :
    ∃ v w' M', (execOp ρ o).run P w = .ok (.value v) w' ∧ Ext M M' ∧ RelH M' H' B w' ∧ Beneath B w w' ∧ RelV M' x v := by
  unfold aalloc at h
  split at h
  · rename_i cs hz
    cases h
    obtain ⟨i, z, hi, hz', hrun, hrel⟩ := zeroC_rel hz
    obtain ⟨w', M', h1, h2, h3, h4, h5⟩ := new_var (P := P) r (t := t) (hrel M)
    refine ⟨_, w', M', ?_, h2, h3, h4, h5⟩
    simp [execOp, ho, Instr.alloc, hrun w, h1]
  · cases h

theorem abox_sound {P : Program} {M : List Place} {H : Heap} {B : Base} {w : World} (r : RelH M H B w) {ρ : Operand → Value} {o : Oper} {t : TypeId} {y : Operand} (ho : o.op = .box t y) {a : AV} (hy : RelV M a (ρ y)) {x : AV} {H' : Heap} (h : abox H a = some (x, H')) :
    ∃ v w' M', (execOp ρ o).run P w = .ok (.value v) w' ∧ Ext M M' ∧ RelH M' H' B w' ∧ Beneath B w w' ∧ RelV M' x v := by
  unfold abox at h
  split at h
  · rename_i cs hz
    cases h
    obtain ⟨w', M', h1, h2, h3, h4, h5⟩ := new_var (P := P) r (t := t) (cellsA_rel hy hz)
    refine ⟨_, w', M', ?_, h2, h3, h4, h5⟩
    simp [execOp, ho, Instr.box, h1]
  · cases h

/-! ### store -/

/-- A part written into integers. -/
def splice (k : IntKind) (l : List Int) (s : Nat) : AV → Option (List Int)
  | .int k' _ x => if k' = k then some (l.set s x) else none
  | .is k' m l' => if k' = k then some (l.take s ++ l' ++ l.drop (s + m)) else none
  | .agg [.is k' m l'] => if k' = k then some (l.take s ++ l' ++ l.drop (s + m)) else none
  | .agg cs => (toInts k cs).map fun l' => l.take s ++ l' ++ l.drop (s + l'.length)
  | _ => none

/-- The dynamic part of some cells written. -/
def dput : List AV → Nat → Nat → Nat → AV → Option (List AV)
  | [], _, _, _, _ => none
  | .is k n l :: r, p, span, d, y => if p + span ≤ n then (splice k l (padd p d) y).map fun l' => .is k n l' :: r else if n ≤ p then (dput r (p - n) span d y).map (.is k n l :: ·) else none
  | _ :: _, 0, _, _, _ => none
  | x :: r, p + 1, span, d, y => (dput r p span d y).map (x :: ·)

theorem splice_rel {M : List Place} {k : IntKind} {l : List Int} {s : Nat} {y : AV} {l' : List Int} (h : splice k l s y = some l') {v : Value} (hy : RelV M y v) (hk : ∀ x ∈ l, k.has x) (hs : s + v.cells.size ≤ l.length) :
    l'.map (Value.int k) = (l.map (.int k)).take s ++ v.cells.toList ++ (l.map (.int k)).drop (s + v.cells.size) ∧ (∀ x ∈ l', k.has x) := by
  have isc : ∀ (m : Nat) (l2 : List Int) (a : List Value), RelX M (.is k m l2) a → a = v.cells.toList →
      (l.take s ++ l2 ++ l.drop (s + m)).map (Value.int k) = (l.map (.int k)).take s ++ v.cells.toList ++ (l.map (.int k)).drop (s + v.cells.size) ∧ (∀ x ∈ l.take s ++ l2 ++ l.drop (s + m), k.has x) := by
    intro m l2 a ha hv
    obtain ⟨f1, f2, f3⟩ := RelX_is.1 ha
    have hm : v.cells.size = m := by
      have := congrArg List.length hv
      rw [f2] at this
      simp at this
      omega
    refine ⟨by rw [← hv, hm, f2]; simp [List.map_take, List.map_drop], fun z hz => ?_⟩
    simp only [List.mem_append] at hz
    rcases hz with (hz | hz) | hz
    · exact hk z (List.mem_of_mem_take hz)
    · exact f3 z hz
    · exact hk z (List.mem_of_mem_drop hz)
  unfold splice at h
  split at h
  · rename_i k' lit x
    split at h
    · rename_i hkk
      subst hkk
      cases h
      obtain ⟨e, hx, _⟩ := relV_int hy
      subst e
      simp only [Value.cells] at *
      simp only [List.size_toArray, List.length_cons, List.length_nil] at hs
      refine ⟨by rw [set_map (by omega)]; simp, fun z hz => ?_⟩
      rcases List.mem_or_eq_of_mem_set hz with hz | rfl
      · exact hk z hz
      · exact hx
    · cases h
  · rename_i k' m l2
    split at h
    · rename_i hkk
      subst hkk
      cases h
      refine isc m l2 [v] hy ?_
      obtain ⟨f1, f2, f3⟩ := RelX_is.1 hy
      cases l2 with
      | nil => simp at f2
      | cons z t => simp at f2; rw [f2.1]; rfl
    · cases h
  · rename_i k' m l2
    split at h
    · rename_i hkk
      subst hkk
      cases h
      obtain ⟨vs, hv, hc⟩ := RelX_agg.1 hy
      have hv : v = .agg vs := by simpa using hv
      subst hv
      exact isc m l2 _ (RelC_single.1 hc) rfl
    · cases h
  · rename_i cs _
    simp only [Option.map_eq_some_iff] at h
    obtain ⟨l2, hl2, rfl⟩ := h
    obtain ⟨vs, hv, hc⟩ := RelX_agg.1 hy
    have hv : v = .agg vs := by simpa using hv
    subst hv
    obtain ⟨g1, g2⟩ := toInts_rel hc hl2
    have := isc l2.length l2 _ (RelX_is.2 ⟨rfl, g1, g2⟩) rfl
    exact this
  · cases h

theorem dput_rel {M : List Place} : ∀ {cs : List AV} {vs : List Value} {p span d : Nat} {y : AV} {v : Value} {r : List AV}, RelC M cs vs → RelV M y v → d + v.cells.size ≤ span → dput cs p span d y = some r →
    p + span ≤ vs.length ∧ RelC M r (vs.take (p + d) ++ v.cells.toList ++ vs.drop (p + d + v.cells.size))
  | [], _, _, _, _, _, _, _, _, _, _, h => by simp [dput] at h
  | c :: cs, vs, p, span, d, y, v, r, hc, hy, hd, h => by
    obtain ⟨b, t, rfl, hx, hr⟩ := RelC_cons.1 hc
    have hl := RelX_length hx
    by_cases his : ∃ k n l, c = .is k n l
    · obtain ⟨k, n, l, rfl⟩ := his
      obtain ⟨h1, h2, h3⟩ := RelX_is.1 hx
      simp only [width] at hl
      simp only [dput] at h
      split at h
      · rename_i hs
        simp only [Option.map_eq_some_iff] at h
        obtain ⟨l', hq, rfl⟩ := h
        rw [padd_eq] at hq
        obtain ⟨g1, g2⟩ := splice_rel hq hy h3 (by omega)
        refine ⟨by simp; omega, RelC_cons.2 ⟨l'.map (.int k), t, ?_, RelX_is.2 ⟨?_, rfl, g2⟩, hr⟩⟩
        · rw [g1, ← h2, List.take_append_of_le_length (by omega), List.drop_append_of_le_length (by omega)]
          simp
        · have := congrArg List.length g1
          simp at this
          omega
      · split at h
        · rename_i hs1 hs2
          simp only [Option.map_eq_some_iff] at h
          obtain ⟨r', hq, rfl⟩ := h
          obtain ⟨g1, g2⟩ := dput_rel hr hy hd hq
          refine ⟨by simp; omega, RelC_cons.2 ⟨b, _, ?_, hx, g2⟩⟩
          rw [List.take_append, List.take_of_length_le (show b.length ≤ p + d by omega), List.drop_append, List.drop_of_length_le (show b.length ≤ p + d + v.cells.size by omega), List.nil_append, hl,
            show p + d - n = p - n + d by omega, show p + d + v.cells.size - n = p - n + d + v.cells.size by omega]
          simp
        · cases h
    · have hw : width c = 1 := by
        cases c <;> first | rfl | (exfalso; exact his ⟨_, _, _, rfl⟩)
      rw [hw] at hl
      obtain ⟨u, rfl⟩ := List.length_eq_one_iff.1 hl
      cases p with
      | zero =>
        have : dput (c :: cs) 0 span d y = none := by
          cases c <;> first | rfl | (exfalso; exact his ⟨_, _, _, rfl⟩)
        rw [this] at h
        cases h
      | succ p =>
        have : dput (c :: cs) (p + 1) span d y = (dput cs p span d y).map (c :: ·) := by
          cases c <;> first | rfl | (exfalso; exact his ⟨_, _, _, rfl⟩)
        rw [this] at h
        simp only [Option.map_eq_some_iff] at h
        obtain ⟨r', hq, rfl⟩ := h
        obtain ⟨g1, g2⟩ := dput_rel hr hy hd hq
        refine ⟨by simp; omega, RelC_cons.2 ⟨[u], _, ?_, hx, g2⟩⟩
        rw [show p + 1 + d = p + d + 1 by omega, show p + d + 1 + v.cells.size = p + d + v.cells.size + 1 by omega]
        simp

/-- Can all of a value's cells be stored? -/
def storable (x : AV) : Bool :=
  match cellsA x with
  | some cs => cs.all fun c => match c with
    | .is _ _ _ => true
    | c => scal c
  | none => false

theorem storable_all {M : List Place} : ∀ {cs : List AV} {vs : List Value}, RelC M cs vs → (cs.all fun c => match c with | .is _ _ _ => true | c => scal c) = true → ∀ v ∈ vs, v.oneCell' = true
  | [], vs, h, _ => by rw [RelC_nil] at h; subst h; simp
  | c :: cs, vs, h, hs => by
    obtain ⟨b, t, rfl, hx, hr⟩ := RelC_cons.1 h
    simp only [List.all_cons, Bool.and_eq_true] at hs
    intro v hv
    rcases List.mem_append.1 hv with hv | hv
    · by_cases his : ∃ k n l, c = .is k n l
      · obtain ⟨k, n, l, rfl⟩ := his
        obtain ⟨h1, h2, h3⟩ := RelX_is.1 hx
        rw [h2] at hv
        obtain ⟨z, _, rfl⟩ := List.mem_map.1 hv
        rfl
      · have h1 : scal c = true := by
          have := hs.1
          cases c <;> first | exact this | (exfalso; exact his ⟨_, _, _, rfl⟩)
        obtain ⟨u, rfl, hu⟩ := scal_one h1 hx
        rw [List.mem_singleton] at hv
        subst hv
        exact hu
    · exact storable_all hr hs.2 v hv

/-- A block written at an address. -/
def astore (P : Program) (H : Heap) (t : TypeId) (p x : AV) : Option Heap :=
  match cellsA x with
  | none => none
  | some xs =>
    if storable x = true ∧ sizeT P t = some (wid xs) then
      match p with
      | .ptr b base dyn room span => match H[b]? with
        | some (some ⟨.segs cs, true, pn⟩) => if wid xs ≤ room then
            (match dyn with
             | none => (putC cs base xs).map fun cs' => H.set b (some ⟨.segs cs', true, pn⟩)
             | some d => (dput cs base span d x).map fun cs' => H.set b (some ⟨.segs cs', true, pn⟩))
          else none
        | _ => none
      | .rptr b off room => match H[b]? with
        | some (some ⟨.row k l, true, pn⟩) => if wid xs ≤ room then (splice k l off x).map fun l' => H.set b (some ⟨.row k l', true, pn⟩) else none
        | some (some ⟨.segs [.is k n l], true, pn⟩) => if wid xs ≤ room then (splice k l off x).map fun l' => H.set b (some ⟨.segs [.is k n l'], true, pn⟩) else none
        | _ => none
      | _ => none
    else none

theorem astore_sound {P : Program} {M : List Place} {H : Heap} {B : Base} {w : World} (r : RelH M H B w) {ρ : Operand → Value} {o : Oper} {t : TypeId} {y z : Operand} (ho : o.op = .store t y z) {p x : AV} (hp : RelV M p (ρ y)) (hx : RelV M x (ρ z))
    {H' : Heap} (h : astore P H t p x = some H') : ∃ w', (execOp ρ o).run P w = .ok .skip w' ∧ RelH M H' B w' ∧ Beneath B w w' := by
  unfold astore at h
  split at h
  · cases h
  rename_i xs hxs
  split at h
  · rename_i hcond
    obtain ⟨hst, hsz⟩ := hcond
    have hcx := cellsA_rel hx hxs
    have hlx : (ρ z).cells.size = wid xs := by simpa using RelC_length hcx
    have hone : ∀ v ∈ (ρ z).cells.toList, v.oneCell' = true := by
      unfold storable at hst
      rw [hxs] at hst
      exact storable_all hcx hst
    -- the run of a store at an address inside a block
    have run : ∀ (blk off : Nat) (cells : Array Value) (el : TypeId), ρ y = .pointer (some ⟨blk, off, none⟩) → w.heap[blk]? = some (.cells cells el (0, 0)) → off + wid xs ≤ cells.size →
        (execOp ρ o).run P w = .ok .skip (w.setRow blk (cells.toList.take off ++ (ρ z).cells.toList ++ cells.toList.drop (off + wid xs)).toArray) := by
      intro blk off cells el hy hg hle
      have hs := run_storeCells_at P blk off el (ρ z).cells.toList 0 cells w hg (by simp; omega) hone
      simp only [Nat.add_zero, Array.length_toList, hlx] at hs
      simp [execOp, ho, hy, Instr.storeAt, Instr.sureAddr, storeVar, run_sizeT hsz, hlx, hs]
    split at h
    · rename_i b base dyn room span
      simp only [RelV, RelX] at hp
      obtain ⟨pl, hpl, hnil, hv, hd1, hd2⟩ := hp
      have hv : ρ y = .pointer (some ⟨pl.blk, pl.off + (base + dyn.getD 0), none⟩) := by simpa using hv
      split at h
      · rename_i cs pn hob
        obtain ⟨pl', hpl', hok⟩ := r.obj b _ hob
        rw [hpl] at hpl'; cases hpl'
        rcases hok with ⟨hn, _⟩ | ⟨_, cells, el, fz, hg, hs1, hs2, hro, hown⟩
        · rw [hnil] at hn; cases hn
        obtain ⟨hfz, hoff, hB⟩ := hown rfl
        subst hfz
        simp only [RelO] at hro
        split at h
        · rename_i hroom
          have hrun := run pl.blk (pl.off + (base + dyn.getD 0)) cells el hv hg (by omega)
          refine ⟨_, hrun, ?_⟩
          have sub : ∀ (q : Nat), q + wid xs ≤ pl.n → (((cells.toList.take (pl.off + q) ++ (ρ z).cells.toList ++ cells.toList.drop (pl.off + q + wid xs)).drop pl.off).take pl.n) =
              ((cells.toList.drop pl.off).take pl.n).take q ++ (ρ z).cells.toList ++ ((cells.toList.drop pl.off).take pl.n).drop (q + (ρ z).cells.toList.length) := by
            intro q hq
            rw [hoff]
            simp only [Nat.zero_add, List.drop_zero, Array.length_toList, hlx]
            rw [List.take_append, List.take_of_length_le (show (List.take q cells.toList ++ (ρ z).cells.toList).length ≤ pl.n by simp; omega), List.take_take, Nat.min_eq_left (by omega)]
            congr 1
            rw [List.drop_take]
            congr 1
            simp
            omega
          cases dyn with
          | none =>
            simp only [Option.map_eq_some_iff] at h
            obtain ⟨cs', hq, rfl⟩ := h
            obtain ⟨_, g2⟩ := putC_rel hro hcx hq
            simp only [Option.getD_none, Nat.zero_add, Nat.add_zero] at *
            exact r.write hob rfl hpl hnil hg (by simp; omega) (by rw [List.toList_toArray, sub base (by omega)]; exact g2)
          | some d =>
            simp only [Option.map_eq_some_iff] at h
            obtain ⟨cs', hq, rfl⟩ := h
            simp only [Option.getD_some] at *
            obtain ⟨_, g2⟩ := dput_rel hro hx (by omega) hq
            exact r.write hob rfl hpl hnil hg (by simp; omega) (by rw [List.toList_toArray, sub (base + d) (by omega)]; simpa [RelO] using g2)
        · cases h
      · cases h
    · rename_i b off room
      simp only [RelV, RelX] at hp
      obtain ⟨pl, hpl, hnil, hv, hd1⟩ := hp
      have hv : ρ y = .pointer (some ⟨pl.blk, pl.off + off, none⟩) := by simpa using hv
      have key : ∀ (o' : AObj) (k : IntKind) (l l' : List Int) (c' : Cont), H[b]? = some (some o') → o'.own = true → (∀ vs, RelO M o'.c vs → vs = l.map (.int k) ∧ (∀ x ∈ l, k.has x)) →
          splice k l off x = some l' → wid xs ≤ room → (∀ vs, vs = l'.map (.int k) → (∀ x ∈ l', k.has x) → l'.length = l.length → RelO M c' vs) →
          ∃ w', (execOp ρ o).run P w = .ok .skip w' ∧ RelH M (H.set b (some { o' with c := c' })) B w' ∧ Beneath B w w' := by
        intro o' k l l' c' hob hown' hrel hspl hroom hnew
        obtain ⟨pl', hpl', hok⟩ := r.obj b _ hob
        rw [hpl] at hpl'; cases hpl'
        rcases hok with ⟨hn, _⟩ | ⟨_, cells, el, fz, hg, hs1, hs2, hro, hown⟩
        · rw [hnil] at hn; cases hn
        obtain ⟨hfz, hoff, hB⟩ := hown hown'
        subst hfz
        obtain ⟨e1, e2⟩ := hrel _ hro
        have hlen : l.length = pl.n := by
          have := congrArg List.length e1
          simp at this
          omega
        obtain ⟨g1, g2⟩ := splice_rel hspl hx e2 (by omega)
        have hll : l'.length = l.length := by
          have := congrArg List.length g1
          simp at this
          omega
        refine ⟨_, run pl.blk (pl.off + off) cells el hv hg (by omega), ?_⟩
        refine r.write hob hown' hpl hnil hg (by simp; omega) (hnew _ ?_ g2 hll)
        rw [List.toList_toArray, g1, ← e1, hoff, hlx]
        simp only [Nat.zero_add, List.drop_zero]
        rw [List.take_append, List.take_of_length_le (show (List.take off cells.toList ++ (ρ z).cells.toList).length ≤ pl.n by simp; omega), List.take_take, Nat.min_eq_left (by omega)]
        congr 1
        rw [List.drop_take]
        congr 1
        simp
        omega
      split at h
      · rename_i k l pn hob
        split at h
        · rename_i hroom
          simp only [Option.map_eq_some_iff] at h
          obtain ⟨l', hq, rfl⟩ := h
          exact key ⟨.row k l, true, pn⟩ k l l' (.row k l') hob rfl (fun vs hvs => hvs) hq hroom (fun vs e1 e2 _ => ⟨e1, e2⟩)
        · cases h
      · rename_i k n l pn hob
        split at h
        · rename_i hroom
          simp only [Option.map_eq_some_iff] at h
          obtain ⟨l', hq, rfl⟩ := h
          have hn : ∃ vs, RelO M (.segs [.is k n l]) vs := by
            obtain ⟨pl', hpl', hok⟩ := r.obj b _ hob
            rcases hok with ⟨_, _, hro⟩ | ⟨_, cells, el, fz, hg, hs1, hs2, hro, hown⟩
            · exact ⟨_, hro⟩
            · exact ⟨_, hro⟩
          obtain ⟨vs0, hvs0⟩ := hn
          simp only [RelO, RelC_single, RelX_is] at hvs0
          exact key ⟨.segs [.is k n l], true, pn⟩ k l l' (.segs [.is k n l']) hob rfl (fun vs hvs => by
            simp only [RelO, RelC_single, RelX_is] at hvs
            exact ⟨hvs.2.1, hvs.2.2⟩) hq hroom (fun vs e1 e2 e3 => by
            simp only [RelO, RelC_single, RelX_is]
            exact ⟨by rw [e3]; exact hvs0.1, e1, e2⟩)
        · cases h
      · cases h
    · cases h
  · cases h

end Go.AE
